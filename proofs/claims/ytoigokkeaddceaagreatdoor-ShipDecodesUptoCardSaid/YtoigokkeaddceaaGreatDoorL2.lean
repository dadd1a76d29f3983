/- A part of the proof of this seat's statement: what is particular to its program. Its conditions stand in each theorem. -/
import Derived.Test.YtoigokkeaddceaaGreatDoorL1
namespace Go.Proofs.YtoigokkeaddceaaGreatDoor
open Go.Xq
noncomputable section
def setN (a : Pv) (z : Int) : Pv := ⟨z, a.v, a.ok⟩
def mixP (els : List Pv) (i : Nat) (z : Int) : List Pv := els.mapIdx fun k a => if k < i then setN a z else a
theorem mixP_len (els : List Pv) (i : Nat) (z : Int) : (mixP els i z).length = els.length := by simp [mixP]
theorem mixP_get (els : List Pv) (i : Nat) (z : Int) (k : Nat) : (mixP els i z)[k]? = (els[k]?).map fun a => if k < i then setN a z else a := by simp [mixP]
theorem mixP_zero (els : List Pv) (z : Int) : mixP els 0 z = els := by
  apply List.ext_getElem?
  intro k
  rw [mixP_get]
  cases els[k]? <;> simp
theorem mixP_set {els : List Pv} {i : Nat} {z : Int} {a : Pv} (h : els[i]? = some a) : (mixP els i z).set i (setN a z) = mixP els (i + 1) z := by
  have hi := get_lt h
  apply List.ext_getElem?
  intro k
  rw [mixP_get]
  by_cases e : k = i
  · subst e
    rw [List.getElem?_set_self (by rw [mixP_len]; exact hi), h, Option.map_some, if_pos (by omega)]
  · rw [List.getElem?_set_ne (by omega), mixP_get]
    cases els[k]? with
    | none => rfl
    | some x =>
      simp only [Option.map_some]
      by_cases hk : k < i
      · rw [if_pos hk, if_pos (by omega)]
      · rw [if_neg hk, if_neg (by omega)]
theorem mixP_all {els : List Pv} {z : Int} : ∀ a ∈ mixP els els.length z, a.n = z := by
  intro a ha
  obtain ⟨k, hk⟩ := List.mem_iff_getElem?.1 ha
  rw [mixP_get] at hk
  cases he : els[k]? with
  | none => rw [he] at hk; cases hk
  | some x =>
    have := get_lt he
    rw [he, Option.map_some, if_pos this] at hk
    cases hk
    rfl
def PB (H : AH) (v : AV) (els : List Pv) : Prop := (v = .snil ∧ els = []) ∨ ∃ b o, v = .sl b 0 els.length none ∧ b < H.next ∧ H.get b = some o ∧ ElB encPv 67 2 true zPv els o
theorem lst_pb {H : AH} {lo : Nat} {v : AV} {els : List Pv} (h : LstAt encPv 67 2 zPv H lo v els) : PB H v els := by
  rcases h with h | ⟨b, o, h1, _, _, h3, h4, h5⟩
  · exact .inl h
  · exact .inr ⟨b, o, h1, h3, h4, h5⟩
theorem PB.keep {S : Nat → Prop} {H H2 : AH} {v : AV} {els : List Pv} (h : PB H v els) (hk : Keep S H H2) (hs : ∀ b, blk v = some b → ¬ S b) : PB H2 v els := by
  rcases h with h | ⟨b, o, rfl, h1, h2, h3⟩
  · exact .inl h
  · exact .inr ⟨b, o, rfl, Nat.lt_of_lt_of_le h1 hk.1, hk.get h1 (hs b rfl) h2, h3⟩
theorem PB.low {H : AH} {v : AV} {els : List Pv} (h : PB H v els) {b : Nat} (e : blk v = some b) : b < H.next := by
  rcases h with ⟨rfl, _⟩ | ⟨b', _, rfl, h1, _⟩
  · cases e
  · cases e; exact h1
theorem PB.len {H : AH} {v : AV} {els : List Pv} (h : PB H v els) : onSl v (some (AV.int .i64 0)) (fun _ _ n _ => some (.int .i64 (n : Int))) = some (.int .i64 (els.length : Int)) := by
  rcases h with ⟨rfl, rfl⟩ | ⟨_, _, rfl, _⟩ <;> rfl
theorem PB.at {H : AH} {v : AV} {els : List Pv} (h : PB H v els) {k : Nat} {a : Pv} (ha : els[k]? = some a) : ∃ b o, v = .sl b 0 els.length none ∧ b < H.next ∧ H.get b = some o ∧ ElB encPv 67 2 true zPv els o ∧ rdCell o (k * 2) = some (.int .i64 a.n) ∧ rdCell o (k * 2 + 1) = some a.v := by
  rcases h with ⟨rfl, rfl⟩ | ⟨b, o, h1, h2, h3, h4⟩
  · cases ha
  · exact ⟨b, o, h1, h2, h3, h4, by simpa using h4.cell ha (j := 0) rfl, h4.cell ha (j := 1) rfl⟩
def GP (H : AH) (v : AV) (len : Nat) (z : Int) : Prop := (v = .snil ∧ len = 0) ∨ ∃ b o, v = .sl b 0 len none ∧ b < H.next ∧ H.get b = some o ∧ ∀ k, k < len → rdCell o (k * 2) = some (.int .i64 z)
theorem PB.gp {H : AH} {v : AV} {els : List Pv} {z : Int} (h : PB H v els) (hz : ∀ a ∈ els, a.n = z) : GP H v els.length z := by
  rcases h with ⟨rfl, rfl⟩ | ⟨b, o, h1, h2, h3, h4⟩
  · exact .inl ⟨rfl, rfl⟩
  · refine .inr ⟨b, o, h1, h2, h3, fun k hk => ?_⟩
    have ha : els[k]? = some (els[k]) := List.getElem?_eq_getElem hk
    have := h4.cell ha (j := 0) rfl
    rw [hz _ (List.getElem_mem _)] at this
    simpa using this
theorem GP.keep {S : Nat → Prop} {H H2 : AH} {v : AV} {n : Nat} {z : Int} (h : GP H v n z) (hk : Keep S H H2) (hs : ∀ b, blk v = some b → ¬ S b) : GP H2 v n z := by
  rcases h with h | ⟨b, o, rfl, h1, h2, h3⟩
  · exact .inl h
  · exact .inr ⟨b, o, rfl, Nat.lt_of_lt_of_le h1 hk.1, hk.get h1 (hs b rfl) h2, h3⟩
theorem GP.len {H : AH} {v : AV} {n : Nat} {z : Int} (h : GP H v n z) : onSl v (some (AV.int .i64 0)) (fun _ _ n _ => some (.int .i64 (n : Int))) = some (.int .i64 (n : Int)) := by
  rcases h with ⟨rfl, rfl⟩ | ⟨_, _, rfl, _⟩ <;> rfl
theorem GP.at {H : AH} {v : AV} {n : Nat} {z : Int} (h : GP H v n z) {k : Nat} (hk : k < n) : ∃ b o, v = .sl b 0 n none ∧ H.get b = some o ∧ rdCell o (k * 2) = some (.int .i64 z) := by
  rcases h with ⟨rfl, rfl⟩ | ⟨b, o, h1, h2, h3, h4⟩
  · omega
  · exact ⟨b, o, h1, h3, h4 k hk⟩
def AppP (H : AH) (v : AV) (els : List Pv) (a : Pv) (v' : AV) (H2 : AH) : Prop :=
  (∃ b o o', v = .sl b 0 els.length none ∧ H.get b = some o ∧ ElB encPv 67 2 true zPv els o ∧ ElB encPv 67 2 true zPv (els ++ [a]) o' ∧ v' = .sl b 0 (els.length + 1) none ∧ H2 = H.set b o') ∨
  (∃ o', ElB encPv 67 2 true zPv (els ++ [a]) o' ∧ v' = .sl H.next 0 (els.length + 1) none ∧ H2 = H.new o')
theorem AppP.keep {H H2 : AH} {v v' : AV} {els : List Pv} {a : Pv} (h : AppP H v els a v' H2) : Keep (fun b => blk v = some b) H H2 := by
  rcases h with ⟨b, o, o', rfl, _, _, _, _, rfl⟩ | ⟨o', _, _, rfl⟩
  · exact Keep.set _ fun _ => rfl
  · exact Keep.new _ _ _
theorem AppP.pb {H H2 : AH} {v v' : AV} {els : List Pv} {a : Pv} (h : AppP H v els a v' H2) (hb : ∀ b, blk v = some b → b < H.next) : PB H2 v' (els ++ [a]) := by
  rcases h with ⟨b, o, o', rfl, _, _, h3, rfl, rfl⟩ | ⟨o', h1, rfl, rfl⟩
  · exact .inr ⟨b, o', by simp, by simpa using hb b rfl, get_set_same _ _ _, h3⟩
  · exact .inr ⟨H.next, o', by simp, by simp, get_new_same _ _, h1⟩
theorem AppP.src {H H2 : AH} {v v' : AV} {els : List Pv} {a : Pv} (h : AppP H v els a v' H2) {b : Nat} (e : blk v' = some b) : blk v = some b ∨ b = H.next := by
  rcases h with ⟨b', o, o', rfl, _, _, h3, rfl, rfl⟩ | ⟨o', h1, rfl, rfl⟩
  · exact .inl e
  · cases e; exact .inr rfl
theorem AppP.gp {H H2 : AH} {v v' u : AV} {els : List Pv} {a : Pv} {n : Nat} {z : Int} (h : AppP H v els a v' H2) (hu : GP H u n z) (hs : ∀ b, blk u = some b → blk v = some b → (∀ x ∈ els, x.n = z) ∧ n ≤ els.length) : GP H2 u n z := by
  rcases h with ⟨b, o, o', rfl, g1, g2, h3, rfl, rfl⟩ | ⟨o', h1, rfl, rfl⟩
  · rcases hu with hu | ⟨bu, ou, rfl, u1, u2, u3⟩
    · exact .inl hu
    · by_cases e : bu = b
      · subst e
        obtain ⟨q1, q2⟩ := hs bu rfl rfl
        refine .inr ⟨bu, o', rfl, by simpa using u1, get_set_same _ _ _, fun k hk => ?_⟩
        have ha : (els ++ [a])[k]? = some (els[k]'(by omega)) := by rw [List.getElem?_append_left (by omega)]; exact List.getElem?_eq_getElem _
        have := h3.cell ha (j := 0) rfl
        rw [q1 _ (List.getElem_mem _)] at this
        simpa using this
      · exact .inr ⟨bu, ou, rfl, by simpa using u1, by rw [AH.get_set, if_neg e]; exact u2, u3⟩
  · exact hu.keep (Keep.new noB _ _) fun _ _ => id
theorem s67 : (tyOf E 67).isSome = true := by kernel_rfl
theorem s22p : (tyOf E 22).isSome = true := by kernel_rfl
theorem d22p : ((tyOf E 22).get s22p).d = .slice 67 := by kernel_rfl
theorem n67 : ((tyOf E 67).get s67).size = 2 := by kernel_rfl
theorem z67 : ((tyOf E 67).get s67).zero = some (.agg zPv) := by kernel_rfl
theorem a67 : appOk ((tyOf E 67).get s67) (.agg zPv) = true := by kernel_rfl
theorem g67 : grownK E 67 = some ⟨grownCs 2 ⟨mkCs 67 2 zPv⟩⟩ := by kernel_rfl
section
variable {b : Frame} {n : Cx} {T : Tr AV} {D : List ADf} {H : AH} {Q : Out → Prop}
theorem wpo_appP {ops : Array Oper} {o : Oper} {r : List Oper} {c : Call} {s x : Operand} {v xv : AV} {els : List Pv} {a : Pv} (hop : o.op = .call c) (hc : c.callee = .builtin .append) (ha : c.args.toList = [s, x]) (hty : c.argTypes.toList = [22, 22])
    (hg : o.guard = none) (hd : dstOk n.n o.dst = true) (hk : heavyK E o.op = some ⟨hvAppend ⟨grownCs 2 ⟨mkCs 67 2 zPv⟩⟩ 2 s x⟩) (hs : opnd s T = some v) (hx : opnd x T = some xv) (ho : PB H v els) (hxr : One encPv 2 H xv a) (hca : ∀ u ∈ encPv a, isCell u = true) (hmax : els.length < 1073741823)
    (h : ∀ v' H2, AppP H v els a v' H2 → WPO Tryz.prog b n ops r (putA T o.dst v') D H2 Q) : WPO Tryz.prog b n ops (o :: r) T D H Q := by
  rcases ho with ⟨rfl, rfl⟩ | ⟨b', o0, rfl, h0, h1, h2⟩
  · obtain ⟨o', q1, q2⟩ := appE_snil (e := 67) (z := zPv) (H := H) encPv_len hca hxr
    exact WPO.heavy1 tyOk extOk hk hg hd (by simp [hs, hx]; exact q1) (h _ _ (.inr ⟨o', q2, rfl, rfl⟩))
  · have hfi := firstA_el (enc := encPv) (es := 2) (b := b') (off := 0) (cap := none) (els := els) encPv_len (fun _ => ⟨o0, h1, h2.rd⟩) rfl
    obtain ⟨o', q1, q2⟩ := grownCs_el (e := 67) (z := zPv) encPv_len hca hfi hxr
    have hroom : ∃ room, roomOf H b' (0 * ((tyOf E 67).get s67).size) els.length ((tyOf E 67).get s67).size = some room := by
      rw [n67]
      unfold roomOf
      rw [h1, ob_some']
      obtain ⟨t, rfl⟩ := h2.opn
      exact ⟨_, rfl⟩
    obtain ⟨room, hroom⟩ := hroom
    refine WPO.op (g := none) (by rw [hg]; rfl) rfl hd (fun c' e => by rw [hop] at e; cases e)
      (outc_app tyOk (ty_get s22p) (ty_get s22p) d22p (by rw [d22p]; rfl) (ty_get s67) g67 z67 a67 hop hc ha hty (j := 0) (n := 1) (ab := o') (o2 := o') (by rw [hs, Nat.zero_mul]) hx hxr.len (by omega) (by omega) hroom
        (by rw [Nat.zero_mul]; exact q1) (by rw [Nat.zero_add]; exact q1) h1 (by obtain ⟨t, rfl⟩ := h2.opn; obtain ⟨t', rfl⟩ := q2.opn; simp [alikeB])) fun v' H2 hq => h v' H2 ?_
    rw [Nat.zero_mul] at hq
    rcases hq with ⟨rfl, rfl⟩ | ⟨rfl, rfl⟩
    · exact .inl ⟨b', o0, o', rfl, h1, h2, q2, rfl, rfl⟩
    · exact .inr ⟨o', q2, rfl, rfl⟩
end
def BookAt.keep2 {H H2 : AH} {B pb : Nat} {S : List AV} {W : Nat → Prop} (h : BookAt H B pb S) (hk : Keep W H H2) (h1 : ¬ W pb) (h2 : ∀ b, blk h.bl = some b → ¬ W b) : BookAt H2 B pb S :=
  ⟨h.bl, h.o, h.low, Nat.lt_of_lt_of_le h.lt hk.1, hk.get h.lt h1 h.get, h.el, h.bytes.keep hk h2, h.d1⟩
end
end Go.Proofs.YtoigokkeaddceaaGreatDoor
namespace Go.Proofs.YtoigokkeaddceaaGreatDoor
open Go.Xq
noncomputable section
def OwnAll (H : AH) (S : List AV) (Bs : List (List UInt8)) : Prop := S.length = Bs.length ∧ ∀ (i : Nat) (v : AV) (l : List UInt8), S[i]? = some v → Bs[i]? = some l → OwnB 5 H 0 v l
theorem OwnAll.app {H : AH} {S S' : List AV} {Bs Bs' : List (List UInt8)} (h : OwnAll H S Bs) (h' : OwnAll H S' Bs') : OwnAll H (S ++ S') (Bs ++ Bs') := by
  refine ⟨by simp [h.1, h'.1], fun i v l hv hl => ?_⟩
  rcases Nat.lt_or_ge i S.length with hi | hi
  · rw [List.getElem?_append_left hi] at hv
    rw [List.getElem?_append_left (by rw [← h.1]; exact hi)] at hl
    exact h.2 i v l hv hl
  · rw [List.getElem?_append_right hi] at hv
    rw [List.getElem?_append_right (by rw [← h.1]; exact hi), ← h.1] at hl
    exact h'.2 _ v l hv hl
theorem OwnAll.one {H : AH} {lo : Nat} {v : AV} {l : List UInt8} (h : OwnB 5 H lo v l) : OwnAll H [v] [l] := by
  refine ⟨rfl, fun i u k hu hk => ?_⟩
  match i, hu, hk with
  | 0, hu, hk => simp at hu hk; subst hu hk; exact ownB_wide h (Nat.zero_le _)
  | i + 1, hu, _ => simp at hu
theorem OwnAll.pages {H : AH} {lo : Nat} {pv : AV} {ps : List (Int × List UInt8)} {els : List Pv} (h : PagesAt H lo pv ps els) : OwnAll H (els.map fun a => a.v) (ps.map fun p => p.2) := by
  refine ⟨by simp [h.len], fun i v l hv hl => ?_⟩
  simp only [List.getElem?_map, Option.map_eq_some_iff] at hv hl
  obtain ⟨a, ha, rfl⟩ := hv
  obtain ⟨p, hp, rfl⟩ := hl
  exact ownB_wide (h.at_ i a p ha hp).2 (Nat.zero_le _)
theorem apart_two {u1 u2 : AV} {E1 E2 : List AV} (h1 : Apart (u1 :: E1)) (h2 : Apart (u2 :: E2)) (hx : ∀ u ∈ u1 :: E1, ∀ w ∈ u2 :: E2, ∀ b, sblk u = some b → sblk w ≠ some b) : Apart ([u1] ++ [u2] ++ E1 ++ E2) := by
  obtain ⟨a1, a2⟩ := List.pairwise_cons.1 h1
  obtain ⟨b1, b2⟩ := List.pairwise_cons.1 h2
  refine List.pairwise_append.2 ⟨List.pairwise_append.2 ⟨List.pairwise_append.2 ⟨List.Pairwise.cons (by simp) .nil, List.Pairwise.cons (by simp) .nil, ?_⟩, a2, ?_⟩, b2, ?_⟩
  · intro u hu w hw
    exact hx u (by simp at hu; simp [hu]) w (by simp at hw; simp [hw])
  · intro u hu w hw b e1 e2
    simp at hu
    rcases hu with rfl | rfl
    · exact a1 w hw b e1 e2
    · exact hx w (by simp [hw]) u (by simp) b e2 e1
  · intro u hu w hw b e1 e2
    simp at hu
    rcases hu with rfl | rfl | hu
    · exact hx u (by simp) w (by simp [hw]) b e1 e2
    · exact b1 w hw b e1 e2
    · exact hx u (by simp [hu]) w (by simp [hw]) b e1 e2
theorem pages_low {H : AH} {lo : Nat} {pv : AV} {ps : List (Int × List UInt8)} {els : List Pv} (h : PagesAt H lo pv ps els) {a : Pv} (ha : a ∈ els) {b : Nat} (e : blk a.v = some b) : lo ≤ b ∧ b < H.next ∧ ¬ blk pv = some b := by
  obtain ⟨i, hi⟩ := List.mem_iff_getElem?.1 ha
  have hil := get_lt hi
  have ho := (h.at_ i a (ps[i]'(by rw [← h.len]; exact hil)) hi (List.getElem?_eq_getElem _)).2
  exact ⟨(ho.low e).1, (ho.low e).2, lst_own h.lst ho e⟩
set_option maxRecDepth 20000 in
set_option maxHeartbeats 4000000 in
theorem ownedD_ok {H : AH} {d1 d2 : Dl} {pv1 mv1 pv2 mv2 : AV} {els1 els2 : List Pv} {lo1 lo2 : Nat} (h1 : OwnD H lo1 d1 pv1 mv1 els1) (h2 : OwnD H lo2 d2 pv2 mv2 els2) (hlo : lo1 ≤ lo2)
    (h12 : ∀ u ∈ pv1 :: mv1 :: els1.map (fun a => a.v), ∀ b, blk u = some b → b < lo2)
    (m1 : d1.meta_.length ≤ 8388608) (m2 : d2.meta_.length ≤ 8388608) (p1 : d1.pages.length ≤ 8388608) (p2 : d2.pages.length ≤ 8388608) (q1 : ∀ p ∈ d1.pages, p.2.length ≤ 8388608) (q2 : ∀ p ∈ d2.pages, p.2.length ≤ 8388608) :
    AC Tryz.prog .normal 19 (.cons (dlA d1 pv1 mv1) (.cons (dlA d2 pv2 mv2) .nil)) H fun v' H2 => v' = .bool true ∧ Keep (fun b => lo1 ≤ b) H H2 := by
  refine AC.of_wp (re := reTmp 4 reNil) tyOk Tryz.func19 (by kernel_rfl) rfl (by kernel_rfl) (by kernel_rfl) ?_
  rw [tl_nil, argsT_cons, argsT_cons, argsT_nil]
  have hd1 := h1.made.dl
  have hd2 := h2.made.dl
  have l1 : els1.length = d1.pages.length := h1.made.pages.len
  have l2 : els2.length = d2.pages.length := h2.made.pages.len
  obtain ⟨S, hS⟩ : ∃ S, S = [mv1] ++ [mv2] ++ els1.map (fun a => a.v) ++ els2.map (fun a => a.v) := ⟨_, rfl⟩
  have hall : OwnAll H S ([d1.meta_] ++ [d2.meta_] ++ d1.pages.map (fun p => p.2) ++ d2.pages.map (fun p => p.2)) := by
    rw [hS]
    exact (((OwnAll.one h1.made.meta_).app (.one h2.made.meta_)).app (.pages h1.made.pages)).app (.pages h2.made.pages)
  have hbs : ∀ l ∈ [d1.meta_] ++ [d2.meta_] ++ d1.pages.map (fun p => p.2) ++ d2.pages.map (fun p => p.2), l.length ≤ 8388608 := by
    intro l hl
    simp only [List.mem_append, List.mem_map, List.mem_cons, List.not_mem_nil, or_false] at hl
    rcases hl with ((rfl | rfl) | ⟨p, hp, rfl⟩) | ⟨p, hp, rfl⟩
    · exact m1
    · exact m2
    · exact q1 p hp
    · exact q2 p hp
  generalize [d1.meta_] ++ [d2.meta_] ++ d1.pages.map (fun p => p.2) ++ d2.pages.map (fun p => p.2) = Bs at hall hbs
  have hlow1 : ∀ b, blk pv1 = some b → lo1 ≤ b ∧ b < H.next := fun b e => h1.made.pages.lst.low e
  have hlow2 : ∀ b, blk pv2 = some b → lo2 ≤ b ∧ b < H.next := fun b e => h2.made.pages.lst.low e
  have dis : ∀ b, blk pv1 = some b → ¬ blk pv2 = some b := fun b e e2 => by
    have := h12 pv1 (by simp) b e
    have := (hlow2 b e2).1
    omega
  have hap : Apart S := by
    rw [hS]
    refine apart_two h1.ap h2.ap fun u hu w hw b e1 e2 => ?_
    have a1 := h12 u (by simp at hu ⊢; exact .inr hu) b (sblk_blk e1)
    have a2 : lo2 ≤ b := by
      rcases List.mem_cons.1 hw with rfl | hw
      · exact (h2.made.meta_.low (sblk_blk e2)).1
      · obtain ⟨a, ha, rfl⟩ := List.mem_map.1 hw
        exact (pages_low h2.made.pages ha (sblk_blk e2)).1
    omega
  have hof : ∀ b, ofS S b → lo1 ≤ b ∧ b < H.next ∧ ¬ blk pv1 = some b ∧ ¬ blk pv2 = some b := by
    rintro b ⟨u, hu, e⟩
    have e := sblk_blk e
    rw [hS] at hu
    simp only [List.mem_append, List.mem_map, List.mem_cons, List.not_mem_nil, or_false] at hu
    rcases hu with ((rfl | rfl) | ⟨a, ha, rfl⟩) | ⟨a, ha, rfl⟩
    · refine ⟨(h1.made.meta_.low e).1, (h1.made.meta_.low e).2, lst_own h1.made.pages.lst h1.made.meta_ e, fun e2 => ?_⟩
      have := h12 u (by simp) b e
      have := (hlow2 b e2).1
      omega
    · refine ⟨by have := (h2.made.meta_.low e).1; omega, (h2.made.meta_.low e).2, fun e2 => ?_, lst_own h2.made.pages.lst h2.made.meta_ e⟩
      have := h12 pv1 (by simp) b e2
      have := (h2.made.meta_.low e).1
      omega
    · obtain ⟨c1, c2, c3⟩ := pages_low h1.made.pages ha e
      refine ⟨c1, c2, c3, fun e2 => ?_⟩
      have := h12 a.v (by simp; exact .inr (.inr ⟨a, ha, rfl⟩)) b e
      have := (hlow2 b e2).1
      omega
    · obtain ⟨c1, c2, c3⟩ := pages_low h2.made.pages ha e
      refine ⟨by omega, c2, fun e2 => ?_, c3⟩
      have := h12 pv1 (by simp) b e2
      omega
  have pb1 := lst_pb h1.made.pages.lst
  have pb2 := lst_pb h2.made.pages.lst
  refine WP.seqR ?_
  obtain ⟨o1, e1, hL, hk1⟩ := Bx.box (enc := encDv) (e := 25) (z := zDv) encDv_len (H := H) (a := d1.dv pv1 mv1 hd1.c1 hd1.c2) (x := .tmp 0) (T := tl [(1, dlA d2 pv2 mv2), (0, dlA d1 pv1 mv1)]) (by simp; rfl)
  refine WPO.fresh1 tyOk (k := ⟨frBox ⟨mkCs 25 6 (.cons (.int .i64 0) (.cons (.int .i64 0) (.cons (.int .i64 0) (.cons (.int .i64 0) (.cons .snil (.cons .snil .nil))))))⟩ (.tmp 0)⟩) (by kernel_rfl) rfl (by kernel_rfl) e1 ?_
  have n1 : (H.new o1).next = H.next + 1 := by simp
  generalize H.new o1 = H1 at hL hk1 n1 ⊢
  obtain ⟨N, hN⟩ : ∃ N, N = H.next := ⟨_, rfl⟩
  rw [← hN] at hL n1 ⊢
  obtain ⟨o2, e2, hD, hk2⟩ := Bx.box (enc := encDv) (e := 25) (z := zDv) encDv_len (H := H1) (a := d2.dv pv2 mv2 hd2.c1 hd2.c2) (x := .tmp 1) (T := tl [(2, .ptr N 0), (1, dlA d2 pv2 mv2), (0, dlA d1 pv1 mv1)]) (by simp; rfl)
  refine WPO.fresh1 tyOk (k := ⟨frBox ⟨mkCs 25 6 (.cons (.int .i64 0) (.cons (.int .i64 0) (.cons (.int .i64 0) (.cons (.int .i64 0) (.cons .snil (.cons .snil .nil))))))⟩ (.tmp 1)⟩) (by kernel_rfl) rfl (by kernel_rfl) e2 ?_
  have n2 : (H1.new o2).next = N + 2 := by simp [n1]
  rw [n1] at hD ⊢
  have kk2 := hk1.trans hk2
  have hL2 := hL.keep hk2 (by omega) id
  generalize H1.new o2 = H2 at hD hk2 n2 kk2 hL2 ⊢
  obtain ⟨oA, gA, _, _, _, _, a4, a5, _⟩ := hL2.dv
  obtain ⟨oB, gB, _, _, _, _, b4, b5, _⟩ := hD.dv
  simp only [Dl.dv] at a4 a5 b4 b5
  refine lkP 1 [⟨lkMove (.const (.bool false)), (some 4), none⟩] (by simp (disch := omega) []; exact rfl) ?_
  refine WPO.nilS (WP.seqR ?_)
  refine lkP 1 [⟨⟨buildA (.cons .snil .nil) flEnd⟩, (some 14), none⟩] (by simp (disch := omega) []; exact rfl) ?_
  refine WPO.box1 (enc := enc1) (a := AV.snil) tyOk enc1_len (by kernel_rfl : freshK E _ = some ⟨frBox ⟨mkCs 36 1 (.cons .snil .nil)⟩ (.tmp 14)⟩) rfl (by kernel_rfl) (by simp [chA]; try rfl) fun o1 b1 => ?_
  rw [n2]
  have bk0 : BookAt (H2.new o1) (N + 2) (N + 2) [] := ⟨.snil, o1, Nat.le_refl _, by simp [n2], by rw [← n2]; exact get_new_same _ _, b1, .inl ⟨rfl, rfl⟩, fun b e => (by cases e)⟩
  have kb0 : Keep noB H2 (H2.new o1) := Keep.new _ _ _
  have n3 : (H2.new o1).next = N + 3 := by simp [n2]
  refine lkP 1 [xM 15 5] (by simp (disch := omega) []; exact rfl) ?_
  refine WPO.nilS (WP.seqR ?_)
  have gA3 := kb0.get (by omega) id gA
  have gB3 := kb0.get (by omega) id gB
  have kk3 := kk2.trans kb0
  generalize H2.new o1 = H3 at bk0 kb0 n3 gA3 gB3 kk3 ⊢
  refine lkP 3 [xM 5 16, xF 2 5 17, xL 17 18] (by simp (disch := omega) [gA3, a5]; exact rfl) ?_
  refine WPO.callF (g := 12) rfl rfl rfl (by kernel_rfl) (l := .cons (.ptr (N + 2) 0) (.cons mv1 .nil)) (by simp) (take03_ok bk0 h1.made.meta_.cell (by simp)).ac fun _ H4 ⟨bk1, k4⟩ => ?_
  have gA4 := k4.get (by omega) (by omega) gA3
  have gB4 := k4.get (by omega) (by omega) gB3
  have kk4 : Keep noB H H4 := kk3.trans' k4 fun b hb e => absurd e (by omega)
  refine WPO.nilS (WP.seqR ?_)
  refine lkP 3 [xM 5 20, xF 3 5 21, xL 21 22] (by simp (disch := omega) [gB4, b5]; exact rfl) ?_
  refine WPO.callF (g := 12) rfl rfl rfl (by kernel_rfl) (l := .cons (.ptr (N + 2) 0) (.cons mv2 .nil)) (by simp) (take03_ok bk1 h2.made.meta_.cell (by simp)).ac fun _ H5 ⟨bk2, k5⟩ => ?_
  have gA5 := k5.get (by have := bk1.next; omega) (by omega) gA4
  have gB5 := k5.get (by have := bk1.next; omega) (by omega) gB4
  have kk5 : Keep noB H H5 := kk4.trans' k5 fun b hb e => absurd e (by omega)
  have pb15 := pb1.keep kk5 fun _ _ => id
  have pb25 := pb2.keep kk5 fun _ _ => id
  refine WPO.nilS (WP.seq (WP.seqR ?_))
  refine lkP 1 [⟨lkMove (.const (.int .i64 0)), (some 6), none⟩] (by simp (disch := omega) []; exact rfl) ?_
  refine WPO.nilS (WP.forE (σ := Nat) (fun i => [(2, .ptr N 0), (3, .ptr (N + 1) 0), (5, .ptr (N + 2) 0), (6, .int .i64 (i : Int))])
    (fun i H' => i ≤ els1.length ∧ Nonempty (BookAt H' (N + 2) (N + 2) ([mv1] ++ [mv2] ++ (els1.take i).map (fun a => a.v))) ∧ PB H' pv1 (mixP els1 i (-1000)) ∧ PB H' pv2 els2 ∧ H'.get N = some oA ∧ H'.get (N + 1) = some oB ∧ Keep (fun b => blk pv1 = some b ∨ blk pv2 = some b) H H') (fun i => els1.length - i) 0
    ⟨Nat.zero_le _, ⟨by simpa using bk2⟩, by rw [mixP_zero]; exact pb15, pb25, gA5, gB5, kk5.mono fun _ _ e => e.elim⟩ (by simp) ?_)
  rintro i Hp ⟨hi, ⟨bk⟩, hpx, hpy, gAx, gBx, kx⟩
  have hnx := bk.lt
  have hlnx := hpx.len
  rw [mixP_len] at hlnx
  refine lkP 5 [xM 6 24, xF 2 4 25, xL 25 26, xN 26 27, xB akLss 24 27 28] (by simp (disch := omega) [gAx, a4, hlnx]; exact rfl) ?_
  refine WPO.nil ⟨decide ((i : Int) < (els1.length : Int)), _, rfl, by simp, fun hc => ?_, fun hc => ?_⟩
  rotate_left
  · have hc : i < els1.length := by have := of_decide_eq_true hc; omega
    have ha : els1[i]? = some (els1[i]) := List.getElem?_eq_getElem hc
    generalize els1[i] = a at ha
    have ham : (mixP els1 i (-1000))[i]? = some a := by rw [mixP_get, ha, Option.map_some, if_neg (Nat.lt_irrefl _)]
    obtain ⟨b, o, w1, w2, w3, w4, w5, w6⟩ := hpx.at ham
    rw [mixP_len] at w1
    have hbN : b < N := by have := (hlow1 b (by rw [w1]; rfl)).2; omega
    have e4 := a4
    rw [w1] at e4
    refine WP.seqR ?_
    refine lkP 7 [xM 5 31, xF 2 4 32, xL 32 33, xM 6 34, xI 2 33 34 35, xF 35 1 36, xL 36 37] (by simp (disch := omega) [gAx, e4, w3, w6, hc]; exact rfl) ?_
    refine WPO.callF (g := 12) rfl rfl rfl (by kernel_rfl) (l := .cons (.ptr (N + 2) 0) (.cons a.v .nil)) (by simp) (take03_ok bk a.ok (by simp; omega)).ac fun _ Hy ⟨bky, ky⟩ => ?_
    have gAy := ky.get (by omega) (by omega) gAx
    have gBy := ky.get (by omega) (by omega) gBx
    have w3y := ky.get w2 (by omega) w3
    have hny := bky.lt
    refine WPO.nilS (WP.region ?_)
    refine lkP 5 [xF 2 4 39, xL 39 40, xM 6 41, xI 2 40 41 42, xF 42 0 43] (by simp (disch := omega) [gAy, e4, hc]; exact rfl) ?_
    obtain ⟨o', s1, c1⟩ := st1_el (H := Hy) (a' := setN a (-1000)) (v := .int .i64 (-1000)) (f := 0) encPv_len w4 w3y (i := i) ham (by omega) rfl rfl
    refine WPO.heavy1 tyOk extOk (k := ⟨hvStore ⟨st1'⟩ (.tmp 43) (.const (.int .i64 (-1000)))⟩) (by kernel_rfl) rfl (by kernel_rfl) (by simp; exact st1_ob s1) ?_
    refine WPO.nil ?_
    have ks : Keep (fun x => x = b) Hy (Hy.set b o') := Keep.set _ fun _ => rfl
    have gs : (Hy.set b o').get b = some o' := get_set_same _ _ _
    have ns : (Hy.set b o').next = Hy.next := by simp
    generalize Hy.set b o' = Hz at ks gs ns ⊢
    refine lkP 3 [xM 6 29, xC akAdd 29 1 30, xM 30 6] (by simp (disch := omega) []; exact rfl) ?_
    refine WPO.nil ⟨rfl, i + 1, _, rfl, by simp, ⟨by omega, ⟨?_⟩, ?_, ?_, ks.get (by omega) (by omega) gAy, ks.get (by omega) (by omega) gBy, ?_⟩, by omega⟩
    · have hb3 := bky.keep ks fun x hx e => by omega
      have et : els1.take (i + 1) = els1.take i ++ [a] := by rw [List.take_add_one, ha]; rfl
      rw [et, List.map_append, ← List.append_assoc]
      exact hb3
    · refine .inr ⟨b, o', by rw [mixP_len]; exact w1, by omega, gs, ?_⟩
      rw [mixP_set ha] at c1
      exact c1
    · exact (hpy.keep ky (fun x e => by have := (hlow2 x e).2; omega)).keep ks fun x e e2 => dis b (by rw [w1]; rfl) (e2 ▸ e)
    · exact (kx.trans' ky fun x hx e => absurd e (by omega)).trans' ks fun x hx e => .inl (by rw [w1, e]; rfl)
  have hc : i = els1.length := by have := of_decide_eq_false hc; omega
  subst hc
  refine WP.seq (WP.seqR ?_)
  refine lkP 1 [⟨lkMove (.const (.int .i64 0)), (some 7), none⟩] (by simp (disch := omega) []; exact rfl) ?_
  refine WPO.nilS (WP.forE (σ := Nat) (fun i => [(2, .ptr N 0), (3, .ptr (N + 1) 0), (5, .ptr (N + 2) 0), (7, .int .i64 (i : Int))])
    (fun i H' => i ≤ els2.length ∧ Nonempty (BookAt H' (N + 2) (N + 2) ([mv1] ++ [mv2] ++ els1.map (fun a => a.v) ++ (els2.take i).map (fun a => a.v))) ∧ PB H' pv2 (mixP els2 i (-2000)) ∧ PB H' pv1 (mixP els1 els1.length (-1000)) ∧ H'.get N = some oA ∧ H'.get (N + 1) = some oB ∧ Keep (fun b => blk pv1 = some b ∨ blk pv2 = some b) H H') (fun i => els2.length - i) 0
    ⟨Nat.zero_le _, ⟨by rw [List.take_length] at bk; simpa using bk⟩, by rw [mixP_zero]; exact hpy, hpx, gAx, gBx, kx⟩ (by simp) ?_)
  clear bk hpx hpy gAx gBx kx hnx hlnx hi
  rintro i Hq ⟨hi, ⟨bk⟩, hpx, hpy, gAx, gBx, kx⟩
  have hnx := bk.lt
  have hlnx := hpx.len
  rw [mixP_len] at hlnx
  refine lkP 5 [xM 7 44, xF 3 4 45, xL 45 46, xN 46 47, xB akLss 44 47 48] (by simp (disch := omega) [gBx, b4, hlnx]; exact rfl) ?_
  refine WPO.nil ⟨decide ((i : Int) < (els2.length : Int)), _, rfl, by simp, fun hc => ?_, fun hc => ?_⟩
  rotate_left
  · have hc : i < els2.length := by have := of_decide_eq_true hc; omega
    have ha : els2[i]? = some (els2[i]) := List.getElem?_eq_getElem hc
    generalize els2[i] = a at ha
    have ham : (mixP els2 i (-2000))[i]? = some a := by rw [mixP_get, ha, Option.map_some, if_neg (Nat.lt_irrefl _)]
    obtain ⟨b, o, w1, w2, w3, w4, w5, w6⟩ := hpx.at ham
    rw [mixP_len] at w1
    have hbN : b < N := by have := (hlow2 b (by rw [w1]; rfl)).2; omega
    have e4 := b4
    rw [w1] at e4
    refine WP.seqR ?_
    refine lkP 7 [xM 5 51, xF 3 4 52, xL 52 53, xM 7 54, xI 2 53 54 55, xF 55 1 56, xL 56 57] (by simp (disch := omega) [gBx, e4, w3, w6, hc]; exact rfl) ?_
    refine WPO.callF (g := 12) rfl rfl rfl (by kernel_rfl) (l := .cons (.ptr (N + 2) 0) (.cons a.v .nil)) (by simp) (take03_ok bk a.ok (by simp; omega)).ac fun _ Hy ⟨bky, ky⟩ => ?_
    have gAy := ky.get (by omega) (by omega) gAx
    have gBy := ky.get (by omega) (by omega) gBx
    have w3y := ky.get w2 (by omega) w3
    have hny := bky.lt
    refine WPO.nilS (WP.region ?_)
    refine lkP 5 [xF 3 4 59, xL 59 60, xM 7 61, xI 2 60 61 62, xF 62 0 63] (by simp (disch := omega) [gBy, e4, hc]; exact rfl) ?_
    obtain ⟨o', s1, c1⟩ := st1_el (H := Hy) (a' := setN a (-2000)) (v := .int .i64 (-2000)) (f := 0) encPv_len w4 w3y (i := i) ham (by omega) rfl rfl
    refine WPO.heavy1 tyOk extOk (k := ⟨hvStore ⟨st1'⟩ (.tmp 63) (.const (.int .i64 (-2000)))⟩) (by kernel_rfl) rfl (by kernel_rfl) (by simp; exact st1_ob s1) ?_
    refine WPO.nil ?_
    have ks : Keep (fun x => x = b) Hy (Hy.set b o') := Keep.set _ fun _ => rfl
    have gs : (Hy.set b o').get b = some o' := get_set_same _ _ _
    have ns : (Hy.set b o').next = Hy.next := by simp
    generalize Hy.set b o' = Hz at ks gs ns ⊢
    refine lkP 3 [xM 7 49, xC akAdd 49 1 50, xM 50 7] (by simp (disch := omega) []; exact rfl) ?_
    refine WPO.nil ⟨rfl, i + 1, _, rfl, by simp, ⟨by omega, ⟨?_⟩, ?_, ?_, ks.get (by omega) (by omega) gAy, ks.get (by omega) (by omega) gBy, ?_⟩, by omega⟩
    · have hb3 := bky.keep ks fun x hx e => by omega
      have et : els2.take (i + 1) = els2.take i ++ [a] := by rw [List.take_add_one, ha]; rfl
      rw [et, List.map_append, ← List.append_assoc]
      exact hb3
    · refine .inr ⟨b, o', by rw [mixP_len]; exact w1, by omega, gs, ?_⟩
      rw [mixP_set ha] at c1
      exact c1
    · exact (hpy.keep ky (fun x e => by have := (hlow1 x e).2; omega)).keep ks fun x e e2 => dis x e (by rw [w1, e2]; rfl)
    · exact (kx.trans' ky fun x hx e => absurd e (by omega)).trans' ks fun x hx e => .inr (by rw [w1, e]; rfl)
  have hc : i = els2.length := by have := of_decide_eq_false hc; omega
  subst hc
  rw [List.take_length, ← hS] at bk
  have hn3 := bk.lt
  have la := hpy.len
  have lb := hpx.len
  rw [mixP_len] at la lb
  refine WP.seqR ?_
  refine lkP 3 [xF 2 4 64, xL 64 65, xM 65 8] (by simp (disch := omega) [gAx, a4, la]; exact rfl) ?_
  refine WPO.nilS (WP.seqR ?_)
  refine lkP 3 [xF 3 4 66, xL 66 67, xM 67 9] (by simp (disch := omega) [gBx, b4, lb]; exact rfl) ?_
  refine WPO.nilS (WP.seq (WP.seqR ?_))
  refine lkP 1 [⟨lkMove (.const (.int .i64 0)), (some 10), none⟩] (by simp (disch := omega) []; exact rfl) ?_
  have gp1 := hpy.gp (z := -1000) mixP_all
  have gp2 := hpx.gp (z := -2000) mixP_all
  rw [mixP_len] at gp1 gp2
  have hqn := kx.1
  refine WPO.nilS (WP.forE (σ := Nat × AV × List Pv × AV × List Pv) (fun s => [(2, .ptr N 0), (3, .ptr (N + 1) 0), (5, .ptr (N + 2) 0), (8, s.2.1), (9, s.2.2.2.1), (10, .int .i64 (s.1 : Int))])
    (fun s H' => s.1 ≤ 5 ∧ GP H' pv1 els1.length (-1000) ∧ GP H' pv2 els2.length (-2000) ∧ PB H' s.2.1 s.2.2.1 ∧ s.2.2.1.length = els1.length + s.1 ∧ (∀ a ∈ s.2.2.1, a.n = -1000) ∧ PB H' s.2.2.2.1 s.2.2.2.2 ∧ s.2.2.2.2.length = els2.length + s.1 ∧ (∀ a ∈ s.2.2.2.2, a.n = -2000) ∧
      (∀ b, blk s.2.1 = some b → blk pv1 = some b ∨ Hq.next ≤ b) ∧ (∀ b, blk s.2.2.2.1 = some b → blk pv2 = some b ∨ Hq.next ≤ b) ∧ (∀ b, blk s.2.1 = some b → ¬ blk s.2.2.2.1 = some b) ∧ Keep (fun b => blk pv1 = some b ∨ blk pv2 = some b) Hq H') (fun s => 5 - s.1) (0, pv1, mixP els1 els1.length (-1000), pv2, mixP els2 els2.length (-2000))
    ⟨by simp, gp1, gp2, hpy, by simp [mixP_len], mixP_all, hpx, by simp [mixP_len], mixP_all, fun b e => .inl e, fun b e => .inl e, dis, Keep.refl _ _⟩ (by simp) ?_)
  rintro ⟨k, cv, ec, dv, ed⟩ Hr ⟨hk, g1, g2, pc, lc, zc, pd, ld, zd, sc, sd, cd, kr⟩
  dsimp only at hk pc lc zc pd ld zd sc sd cd
  have hnr := kr.1
  refine lkP 2 [xM 10 68, xC akLss 68 5 69] (by simp (disch := omega) []; exact rfl) ?_
  refine WPO.nil ⟨decide ((k : Int) < 5), _, rfl, by simp, fun hc => ?_, fun hc => ?_⟩
  rotate_left
  · have hc : k < 5 := by have := of_decide_eq_true hc; omega
    have hb1 : ∀ b, blk pv1 = some b → b < N := fun b e => by have := (hlow1 b e).2; omega
    have hb2 : ∀ b, blk pv2 = some b → b < N := fun b e => by have := (hlow2 b e).2; omega
    refine WP.seqR ?_
    refine lkP 2 [xM 8 72, ⟨⟨buildA (.cons (.int .i64 0) (.cons .snil .nil)) ⟨fill1 (.const (.int .i64 (-1000))) 0 1 flEnd⟩⟩, (some 73), none⟩] (by simp (disch := omega) []; exact rfl) ?_
    refine WPO.slice1 (enc := encPv) (a := (⟨-1000, .snil, rfl⟩ : Pv)) tyOk encPv_len (by kernel_rfl : freshK E _ = some ⟨frSlice 1 (zerosA (.cons (.int .i64 0) (.cons .snil .nil)) 1) ⟨fill1 (.tmp 73) 0 2 flEnd⟩ ⟨mkCs 67 2 (.cons (.int .i64 0) (.cons .snil .nil))⟩⟩) rfl (by kernel_rfl) (by simp; rfl) (by first | rfl | (rw [cellsA_cell (by assumption)]; rfl) | (simp [encPv, chA]; done)) (by rfl) (by rfl) fun o1 b1 => ?_
    have kn : Keep noB Hr (Hr.new o1) := Keep.new _ _ _
    have gn : (Hr.new o1).get Hr.next = some o1 := get_new_same _ _
    have nn : (Hr.new o1).next = Hr.next + 1 := by simp
    generalize Hr.new o1 = Hs at kn gn nn ⊢
    refine wpo_appP (els := ec) (a := (⟨-1000, .snil, rfl⟩ : Pv)) rfl rfl rfl rfl rfl (by kernel_rfl) (by kernel_rfl) (by simp) (by simp) (pc.keep kn fun _ _ => id) (One.of (cap := some 1) gn b1) (cells_pv _) (by omega) fun cv' Ht ha => ?_
    have g1t := ha.gp (g1.keep kn fun _ _ => id) fun b e e2 => ⟨zc, by omega⟩
    have g2t := ha.gp (g2.keep kn fun _ _ => id) fun b e e2 => by
      rcases sc b e2 with e3 | e3
      · exact absurd e (dis b e3)
      · have := hb2 b e; omega
    have pct := ha.pb fun b e => by have := pc.low e; omega
    have kat := ha.keep
    have pdt := (pd.keep kn fun _ _ => id).keep kat fun b e e2 => cd b e2 e
    have nt := kat.1
    have krt : Keep (fun b => blk pv1 = some b ∨ blk pv2 = some b) Hq Ht := (kr.trans' kn fun b hb e => e.elim).trans' kat fun b hb e => by
      rcases sc b e with e3 | e3
      · exact .inl e3
      · omega
    have zct : ∀ a ∈ ec ++ [(⟨-1000, .snil, rfl⟩ : Pv)], a.n = -1000 := fun a h => by
      rcases List.mem_append.1 h with h | h
      · exact zc a h
      · simp at h; rw [h]
    have lct : (ec ++ [(⟨-1000, .snil, rfl⟩ : Pv)]).length = els1.length + (k + 1) := by simp; omega
    have sct : ∀ b, blk cv' = some b → blk pv1 = some b ∨ Hq.next ≤ b := fun b e => by
      rcases ha.src e with e | e
      · exact sc b e
      · exact .inr (by omega)
    have cdt : ∀ b, blk cv' = some b → ¬ blk dv = some b := fun b e e2 => by
      rcases ha.src e with e | e
      · exact cd b e e2
      · have := pd.low e2; omega
    clear ha
    generalize ec ++ [(⟨-1000, .snil, rfl⟩ : Pv)] = ec' at pct zct lct
    simp only [putA_some]
    refine lkP 1 [xM 75 8] (by simp (disch := omega) []; exact rfl) ?_
    refine WPO.nilS (WP.region ?_)
    refine lkP 2 [xM 9 76, ⟨⟨buildA (.cons (.int .i64 0) (.cons .snil .nil)) ⟨fill1 (.const (.int .i64 (-2000))) 0 1 flEnd⟩⟩, (some 77), none⟩] (by simp (disch := omega) []; exact rfl) ?_
    refine WPO.slice1 (enc := encPv) (a := (⟨-2000, .snil, rfl⟩ : Pv)) tyOk encPv_len (by kernel_rfl : freshK E _ = some ⟨frSlice 1 (zerosA (.cons (.int .i64 0) (.cons .snil .nil)) 1) ⟨fill1 (.tmp 77) 0 2 flEnd⟩ ⟨mkCs 67 2 (.cons (.int .i64 0) (.cons .snil .nil))⟩⟩) rfl (by kernel_rfl) (by simp; rfl) (by first | rfl | (rw [cellsA_cell (by assumption)]; rfl) | (simp [encPv, chA]; done)) (by rfl) (by rfl) fun o1 b1 => ?_
    have kn2 : Keep noB Ht (Ht.new o1) := Keep.new _ _ _
    have gn2 : (Ht.new o1).get Ht.next = some o1 := get_new_same _ _
    have nn2 : (Ht.new o1).next = Ht.next + 1 := by simp
    generalize Ht.new o1 = Hu at kn2 gn2 nn2 ⊢
    refine wpo_appP (els := ed) (a := (⟨-2000, .snil, rfl⟩ : Pv)) rfl rfl rfl rfl rfl (by kernel_rfl) (by kernel_rfl) (by simp) (by simp) (pdt.keep kn2 fun _ _ => id) (One.of (cap := some 1) gn2 b1) (cells_pv _) (by omega) fun dv' Hv ha => ?_
    have g2v := ha.gp (g2t.keep kn2 fun _ _ => id) fun b e e2 => ⟨zd, by omega⟩
    have g1v := ha.gp (g1t.keep kn2 fun _ _ => id) fun b e e2 => by
      rcases sd b e2 with e3 | e3
      · exact absurd e3 (dis b e)
      · have := hb1 b e; omega
    have pdv := ha.pb fun b e => by have := pdt.low e; omega
    have kav := ha.keep
    have pcv := (pct.keep kn2 fun _ _ => id).keep kav fun b e e2 => cdt b e e2
    have nv := kav.1
    have krv : Keep (fun b => blk pv1 = some b ∨ blk pv2 = some b) Hq Hv := (krt.trans' kn2 fun b hb e => e.elim).trans' kav fun b hb e => by
      rcases sd b e with e3 | e3
      · exact .inr e3
      · omega
    have zdt : ∀ a ∈ ed ++ [(⟨-2000, .snil, rfl⟩ : Pv)], a.n = -2000 := fun a h => by
      rcases List.mem_append.1 h with h | h
      · exact zd a h
      · simp at h; rw [h]
    have ldt : (ed ++ [(⟨-2000, .snil, rfl⟩ : Pv)]).length = els2.length + (k + 1) := by simp; omega
    have sdt : ∀ b, blk dv' = some b → blk pv2 = some b ∨ Hq.next ≤ b := fun b e => by
      rcases ha.src e with e | e
      · exact sd b e
      · exact .inr (by omega)
    have cdv : ∀ b, blk cv' = some b → ¬ blk dv' = some b := fun b e e2 => by
      rcases ha.src e2 with e2 | e2
      · exact cdt b e e2
      · have := pct.low e; omega
    clear ha
    simp only [putA_some]
    refine lkP 1 [xM 79 9] (by simp (disch := omega) []; exact rfl) ?_
    refine WPO.nil ?_
    refine lkP 3 [xM 10 70, xC akAdd 70 1 71, xM 71 10] (by simp (disch := omega) []; exact rfl) ?_
    exact WPO.nil ⟨rfl, (k + 1, cv', ec', dv', ed ++ [(⟨-2000, .snil, rfl⟩ : Pv)]), _, rfl, by simp, ⟨by simp only; omega, g1v, g2v, pcv, lct, zct, pdv, ldt, zdt, sct, sdt, cdv, krv⟩, by simp only; omega⟩
  have hc : k = 5 := by have := of_decide_eq_false hc; omega
  subst hc
  have hpbN : ∀ b, (blk pv1 = some b ∨ blk pv2 = some b) → b < N := fun b e => e.elim (fun e => by have := (hlow1 b e).2; omega) fun e => by have := (hlow2 b e).2; omega
  have bkr := bk.keep2 kr (fun e => by have := hpbN _ e; omega) fun b e e2 => by
    have := hpbN _ e2
    have := (bk.bytes.low e).1
    omega
  have gAr := kr.get (by omega) (fun e => by have := hpbN _ e; omega) gAx
  have gBr := kr.get (by omega) (fun e => by have := hpbN _ e; omega) gBx
  have kHr : Keep (fun b => blk pv1 = some b ∨ blk pv2 = some b) H Hr := kx.trans kr
  refine WP.seqR ?_
  refine lkP 1 [xM 5 80] (by simp (disch := omega) []; exact rfl) ?_
  refine WPO.callF (g := 13) rfl rfl rfl (by kernel_rfl) (l := .cons (.ptr (N + 2) 0) .nil) (by simp) (owned03_ok bkr bkr.next hall.1 (by rw [hS]; simp; omega) hbs (fun i v l e1 e2 => ?_) hap) fun u Hw ⟨hu, kw⟩ => ?_
  · have ho := hall.2 i v l e1 e2
    have hb : ∀ b, blk v = some b → b < N ∧ ¬ blk pv1 = some b ∧ ¬ blk pv2 = some b := fun b e => by
      rcases ho with ⟨rfl, _⟩ | ⟨b', rfl, hne, g1, g2, g3⟩
      · cases e
      · cases e
        have := hof b ⟨_, List.mem_of_getElem? e1, rfl⟩
        exact ⟨by omega, this.2.2⟩
    have h0 := ownB_own (hi := N) (lo2 := 0) ho (by omega) (Nat.le_refl _)
    exact h0.keep kHr (fun b _ _ e3 e4 => by
      have := hb b (sblk_blk e3)
      rcases e4 with e4 | e4
      · exact this.2.1 e4
      · exact this.2.2 e4) (by omega) (by omega) (by omega)
  subst hu
  have hofN : ∀ b, N ≤ b → ¬ ofS S b := fun b hb e => by have := (hof b e).2.1; omega
  have gAw := kw.get (by omega) (hofN _ (by omega)) gAr
  have gBw := kw.get (by omega) (hofN _ (by omega)) gBr
  have g1w := g1.keep kw fun b e e2 => (hof b e2).2.2.1 e
  have g2w := g2.keep kw fun b e e2 => (hof b e2).2.2.2 e
  have gcw := (pc.gp zc).keep kw fun b e e2 => by
    rcases sc b e with e3 | e3
    · exact (hof b e2).2.2.1 e3
    · exact hofN b (by omega) e2
  have gdw := (pd.gp zd).keep kw fun b e e2 => by
    rcases sd b e with e3 | e3
    · exact (hof b e2).2.2.2 e3
    · exact hofN b (by omega) e2
  rw [lc] at gcw
  rw [ld] at gdw
  have kall : Keep (fun b => lo1 ≤ b) H Hw := (kHr.mono fun b _ e => e.elim (fun e => (hlow1 b e).1) fun e => by have := (hlow2 b e).1; omega).trans (kw.mono fun b _ e => (hof b e).1)
  have la := g1w.len
  have lb := g2w.len
  have lc' := gcw.len
  have ld' := gdw.len
  refine lkP 1 [xM 81 11] (by simp (disch := omega) []; exact rfl) ?_
  refine WPO.nilS (WP.seq (WP.seqR ?_))
  refine lkP 1 [⟨lkMove (.const (.int .i64 0)), (some 12), none⟩] (by simp (disch := omega) []; exact rfl) ?_
  obtain ⟨M, hM⟩ : ∃ M, M = els1.length + 5 := ⟨_, rfl⟩
  rw [← hM] at gcw lc'
  refine WPO.nilS (WP.forE (σ := Nat) (fun i => [(2, .ptr N 0), (3, .ptr (N + 1) 0), (8, cv), (9, dv), (11, .bool true), (12, .int .i64 (i : Int))]) (fun i H' => i ≤ M ∧ H' = Hw) (fun i => M - i) 0 ⟨by omega, rfl⟩ (by simp) ?_)
  rintro i H' ⟨hi, hH'⟩
  have hH' := hH'.symm
  subst hH'
  refine lkP 4 [xM 12 82, xM 8 83, xN 83 84, xB akLss 82 84 85] (by simp (disch := omega) [lc']; exact rfl) ?_
  refine WPO.nil ⟨decide ((i : Int) < (M : Int)), _, rfl, by simp, fun hc => ?_, fun hc => ?_⟩
  rotate_left
  · have hc : i < M := by have := of_decide_eq_true hc; omega
    obtain ⟨b, o, w1, w2, w3⟩ := gcw.at hc
    subst w1
    refine WP.region ?_
    by_cases hi2 : i < els1.length
    · obtain ⟨b', o', y1, y2, y3⟩ := g1w.at hi2
      have e4 := a4
      rw [y1] at e4
      have hi3 : ¬ (els1.length : Int) ≤ (i : Int) := by omega
      refine lkP 26 [xM 11 88, xM 88 89, yM 8 90 89 true, yM 12 91 89 true, yI 2 90 91 92 89 true, yF 92 0 93 89 true, yL 93 94 89 true, yC akEql 94 (-1000) 95 89 true, ⟨⟨pickA (.tmp 89) (.tmp 95) (.const (.bool false))⟩, (some 96), none⟩, xM 96 97, yM 12 98 97 true, yF 2 4 99 97 true, yL 99 100 97 true, yN 100 101 97 true, yB akGeq 98 101 102 97 true, yM 102 103 97 true, yF 2 4 104 103 false, yL 104 105 103 false, yM 12 106 103 false, yI 2 105 106 107 103 false, yF 107 0 108 103 false, yL 108 109 103 false, yC akEql 109 (-1000) 110 103 false, yP 103 110 111 true 97 true, ⟨⟨pickA (.tmp 97) (.tmp 111) (.const (.bool false))⟩, (some 112), none⟩, xM 112 11] (by simp (disch := omega) [w2, w3, gAw, e4, y2, y3, hc, hi2, hi3]; exact rfl) ?_
      refine WPO.nil ?_
      refine lkP 3 [xM 12 86, xC akAdd 86 1 87, xM 87 12] (by simp (disch := omega) []; exact rfl) ?_
      exact WPO.nil ⟨rfl, i + 1, _, rfl, by simp, ⟨by omega, rfl⟩, by omega⟩
    · have hi3 : (els1.length : Int) ≤ (i : Int) := by omega
      refine lkP 26 [xM 11 88, xM 88 89, yM 8 90 89 true, yM 12 91 89 true, yI 2 90 91 92 89 true, yF 92 0 93 89 true, yL 93 94 89 true, yC akEql 94 (-1000) 95 89 true, ⟨⟨pickA (.tmp 89) (.tmp 95) (.const (.bool false))⟩, (some 96), none⟩, xM 96 97, yM 12 98 97 true, yF 2 4 99 97 true, yL 99 100 97 true, yN 100 101 97 true, yB akGeq 98 101 102 97 true, yM 102 103 97 true, yF 2 4 104 103 false, yL 104 105 103 false, yM 12 106 103 false, yI 2 105 106 107 103 false, yF 107 0 108 103 false, yL 108 109 103 false, yC akEql 109 (-1000) 110 103 false, yP 103 110 111 true 97 true, ⟨⟨pickA (.tmp 97) (.tmp 111) (.const (.bool false))⟩, (some 112), none⟩, xM 112 11] (by simp (disch := omega) [w2, w3, gAw, a4, la, hc, hi2, hi3]; exact rfl) ?_
      refine WPO.nil ?_
      refine lkP 3 [xM 12 86, xC akAdd 86 1 87, xM 87 12] (by simp (disch := omega) []; exact rfl) ?_
      exact WPO.nil ⟨rfl, i + 1, _, rfl, by simp, ⟨by omega, rfl⟩, by omega⟩
  refine WP.seq (WP.seqR ?_)
  refine lkP 1 [⟨lkMove (.const (.int .i64 0)), (some 13), none⟩] (by simp (disch := omega) []; exact rfl) ?_
  obtain ⟨M2, hM2⟩ : ∃ M2, M2 = els2.length + 5 := ⟨_, rfl⟩
  rw [← hM2] at gdw ld'
  refine WPO.nilS (WP.forE (σ := Nat) (fun i => [(2, .ptr N 0), (3, .ptr (N + 1) 0), (9, dv), (11, .bool true), (13, .int .i64 (i : Int))]) (fun i H' => i ≤ M2 ∧ H' = Hw) (fun i => M2 - i) 0 ⟨by omega, rfl⟩ (by simp) ?_)
  rintro i H' ⟨hi, hH'⟩
  have hH' := hH'.symm
  subst hH'
  refine lkP 4 [xM 13 113, xM 9 114, xN 114 115, xB akLss 113 115 116] (by simp (disch := omega) [ld']; exact rfl) ?_
  refine WPO.nil ⟨decide ((i : Int) < (M2 : Int)), _, rfl, by simp, fun hc => ?_, fun hc => ?_⟩
  rotate_left
  · have hc : i < M2 := by have := of_decide_eq_true hc; omega
    obtain ⟨b, o, w1, w2, w3⟩ := gdw.at hc
    subst w1
    refine WP.region ?_
    by_cases hi2 : i < els2.length
    · obtain ⟨b', o', y1, y2, y3⟩ := g2w.at hi2
      have e4 := b4
      rw [y1] at e4
      have hi3 : ¬ (els2.length : Int) ≤ (i : Int) := by omega
      refine lkP 26 [xM 11 119, xM 119 120, yM 9 121 120 true, yM 13 122 120 true, yI 2 121 122 123 120 true, yF 123 0 124 120 true, yL 124 125 120 true, yC akEql 125 (-2000) 126 120 true, ⟨⟨pickA (.tmp 120) (.tmp 126) (.const (.bool false))⟩, (some 127), none⟩, xM 127 128, yM 13 129 128 true, yF 3 4 130 128 true, yL 130 131 128 true, yN 131 132 128 true, yB akGeq 129 132 133 128 true, yM 133 134 128 true, yF 3 4 135 134 false, yL 135 136 134 false, yM 13 137 134 false, yI 2 136 137 138 134 false, yF 138 0 139 134 false, yL 139 140 134 false, yC akEql 140 (-2000) 141 134 false, yP 134 141 142 true 128 true, ⟨⟨pickA (.tmp 128) (.tmp 142) (.const (.bool false))⟩, (some 143), none⟩, xM 143 11] (by simp (disch := omega) [w2, w3, gBw, e4, y2, y3, hc, hi2, hi3]; exact rfl) ?_
      refine WPO.nil ?_
      refine lkP 3 [xM 13 117, xC akAdd 117 1 118, xM 118 13] (by simp (disch := omega) []; exact rfl) ?_
      exact WPO.nil ⟨rfl, i + 1, _, rfl, by simp, ⟨by omega, rfl⟩, by omega⟩
    · have hi3 : (els2.length : Int) ≤ (i : Int) := by omega
      refine lkP 26 [xM 11 119, xM 119 120, yM 9 121 120 true, yM 13 122 120 true, yI 2 121 122 123 120 true, yF 123 0 124 120 true, yL 124 125 120 true, yC akEql 125 (-2000) 126 120 true, ⟨⟨pickA (.tmp 120) (.tmp 126) (.const (.bool false))⟩, (some 127), none⟩, xM 127 128, yM 13 129 128 true, yF 3 4 130 128 true, yL 130 131 128 true, yN 131 132 128 true, yB akGeq 129 132 133 128 true, yM 133 134 128 true, yF 3 4 135 134 false, yL 135 136 134 false, yM 13 137 134 false, yI 2 136 137 138 134 false, yF 138 0 139 134 false, yL 139 140 134 false, yC akEql 140 (-2000) 141 134 false, yP 134 141 142 true 128 true, ⟨⟨pickA (.tmp 128) (.tmp 142) (.const (.bool false))⟩, (some 143), none⟩, xM 143 11] (by simp (disch := omega) [w2, w3, gBw, b4, lb, hc, hi2, hi3]; exact rfl) ?_
      refine WPO.nil ?_
      refine lkP 3 [xM 13 117, xC akAdd 117 1 118, xM 118 13] (by simp (disch := omega) []; exact rfl) ?_
      exact WPO.nil ⟨rfl, i + 1, _, rfl, by simp, ⟨by omega, rfl⟩, by omega⟩
  refine WP.seqR ?_
  refine lkP 2 [xM 11 144, xM 144 4] (by simp (disch := omega) []; exact rfl) ?_
  exact WPO.nilS (WP.ret (endR _ (by simp; rfl) ⟨rfl, kall⟩))
end
end Go.Proofs.YtoigokkeaddceaaGreatDoor
namespace Go.Proofs.YtoigokkeaddceaaGreatDoor
open Go.Xq
noncomputable section
open Classical in
def decD (l : List UInt8) : Dl := if saysD l then fldsD l else zeroDl
open Classical in
def decE (l : List UInt8) : Int := if saysD l then 0 else 230
theorem ownD_zero (H : AH) (lo : Nat) : OwnD H lo zeroDl .snil .snil [] :=
  ⟨⟨⟨.inl ⟨rfl, rfl⟩, rfl, fun j a p ha => by simp at ha⟩, .inl ⟨rfl, rfl⟩⟩, List.Pairwise.cons (by simp) .nil⟩
theorem OwnD.keep {S : Nat → Prop} {H H2 : AH} {lo : Nat} {d : Dl} {pv mv : AV} {els : List Pv} (h : OwnD H lo d pv mv els) (hk : Keep S H H2) (hs : ∀ b, lo ≤ b → b < H.next → ¬ S b) : OwnD H2 lo d pv mv els :=
  ⟨⟨h.made.pages.keep hk hs, h.made.meta_.keep hk fun b e => hs b (h.made.meta_.low e).1 (h.made.meta_.low e).2⟩, h.ap⟩
theorem OwnD.low {H : AH} {lo : Nat} {d : Dl} {pv mv : AV} {els : List Pv} (h : OwnD H lo d pv mv els) : ∀ u ∈ pv :: mv :: els.map (fun a => a.v), ∀ b, blk u = some b → lo ≤ b ∧ b < H.next := by
  intro u hu b e
  rcases List.mem_cons.1 hu with rfl | hu
  · exact h.made.pages.lst.low e
  · rcases List.mem_cons.1 hu with rfl | hu
    · exact h.made.meta_.low e
    · obtain ⟨a, ha, rfl⟩ := List.mem_map.1 hu
      exact ⟨(pages_low h.made.pages ha e).1, (pages_low h.made.pages ha e).2.1⟩
theorem decodePU_ok {H : AH} {v : AV} {l : List UInt8} (h : OldS H v l) (hl : l.length ≤ 8589934592) :
    AC Tryz.prog .normal 16 (.cons v .nil) H fun v' H2 => (∃ pv mv els, v' = .tup (.cons (dlA (decD l) pv mv) (.cons (.int .i64 (decE l)) .nil)) ∧ OwnD H2 H.next (decD l) pv mv els) ∧ Keep noB H H2 :=
  (decodeP_ok h hl).mono fun v' H2 ⟨h1, h2, h3⟩ => by
    refine ⟨?_, h3⟩
    by_cases hs : saysD l
    · rw [decD, if_pos hs, decE, if_pos hs]; exact h1 hs
    · rw [decD, if_neg hs, decE, if_neg hs]; exact ⟨.snil, .snil, [], h2 hs, ownD_zero _ _⟩
theorem decode23U_ok {H : AH} {v : AV} {l : List UInt8} (h : RdS H v l) (hs : SlOk H v) (hl : l.length ≤ 8388608) :
    AC Tryz.prog .normal 14 (.cons v .nil) H fun v' H2 => (∃ pv mv els, v' = .tup (.cons (dlA (decD l) pv mv) (.cons (.int .i64 (decE l)) .nil)) ∧ MadeD H2 H.next (decD l) pv mv els) ∧ Keep noB H H2 :=
  (decode23_ok h hs hl).ac.mono fun v' H2 ⟨h1, h2, h3⟩ => by
    refine ⟨?_, h3⟩
    by_cases hs : saysD l
    · rw [decD, if_pos hs, decE, if_pos hs]; exact h1 hs
    · rw [decD, if_neg hs, decE, if_neg hs]; exact ⟨.snil, .snil, [], h2 hs, (ownD_zero _ _).made⟩
theorem sub_le (l : List UInt8) (a w : Nat) : (sub l a w).length ≤ l.length := by simp [sub]; omega
theorem decD_small (l : List UInt8) : (decD l).meta_.length ≤ l.length ∧ (decD l).pages.length ≤ l.length ∧ ∀ p ∈ (decD l).pages, p.2.length ≤ l.length := by
  unfold decD
  split
  · rename_i hs
    refine ⟨sub_le _ _ _, ?_, fun p hp => ?_⟩
    · show (pagesOf l (manyN l)).length ≤ _
      rw [pagesOf_len]
      have := hs.1.2.2
      have h2 : manyN l * 1 ≤ manyN l * (4 + pageN l) := Nat.mul_le_mul_left _ (by omega)
      omega
    · obtain ⟨i, _, rfl⟩ := List.mem_map.1 (show p ∈ (List.range (manyN l)).map (pageAt l) from hp)
      exact sub_le _ _ _
  · exact ⟨Nat.zero_le _, Nat.zero_le _, fun p hp => by cases hp⟩
set_option maxRecDepth 10000 in
set_option maxHeartbeats 4000000 in
theorem mainDec_ok {W : World} {a0 a1 : Nat × Nat} {H : AH} {v : AV} {l : List UInt8} (hG : HoldsG W a0 a1 H) (h : OldS H v l) :
    AC Tryz.prog .normal 4 (.cons v .nil) H fun v' H2 => v' = .bool true ∧ Keep noB H H2 := by
  refine AC.of_wp (re := reTmp 2 reNil) tyOk Tryz.func4 (by kernel_rfl) rfl (by kernel_rfl) (by kernel_rfl) ?_
  rw [tl_nil, argsT_cons, argsT_nil]
  have hlen := h.rd.len
  refine WP.seqR ?_
  refine lkP 1 [⟨lkMove (.const (.bool false)), (some 2), none⟩] (by simp (disch := omega) []; exact rfl) ?_
  refine WPO.nilS (WP.seqR ?_)
  refine WPO.callF (g := 6) rfl rfl rfl (by kernel_rfl) (l := .nil) (by simp) (live_ok hG).ac fun u H' ⟨hu, hH⟩ => ?_
  subst hu
  subst hH
  refine lkP 1 [xM 14 3] (by simp (disch := omega) []; exact rfl) ?_
  refine WPO.nilS (WP.seq (WP.seqR ?_))
  by_cases hbig : 4194304 < l.length
  · have hb' : (4194304 : Int) < (l.length : Int) := by omega
    refine lkP 7 [xM 3 15, xU 15 16, xM 16 17, yM 0 18 17 false, yN 18 19 17 false, yC akGtr 19 4194304 20 17 false, xP 17 20 21 true] (by simp (disch := omega) [hlen, hb', hbig]; exact rfl) ?_
    refine WPO.nilS (WP.cond (t := true) (by simp) (fun _ => WP.seqR ?_) (by simp))
    refine lkP 2 [xM 3 22, xM 22 2] (by simp (disch := omega) []; exact rfl) ?_
    exact WPO.nilS (WP.ret (endR _ (by simp; rfl) ⟨rfl, Keep.refl _ _⟩))
  · have hb' : ¬ (4194304 : Int) < (l.length : Int) := by omega
    obtain ⟨sm1, sm2, sm3⟩ := decD_small l
    refine lkP 7 [xM 3 15, xU 15 16, xM 16 17, yM 0 18 17 false, yN 18 19 17 false, yC akGtr 19 4194304 20 17 false, xP 17 20 21 true] (by simp (disch := omega) [hlen, hb', hbig]; exact rfl) ?_
    refine WPO.nilS (WP.cond (t := false) (by simp) (by simp) fun _ => WP.skip (.inl rfl) (WP.keep (l := [(0, v)]) (WP.seqR ?_) (by simp)))
    refine lkP 1 [xM 0 24] (by simp (disch := omega) []; exact rfl) ?_
    refine WPO.callF (g := 14) rfl rfl rfl (by kernel_rfl) (l := .cons v .nil) (by simp) (decode23U_ok h.rd h.cut (by omega)) fun u H1 ⟨⟨pw, mw, ew, hu, ow⟩, k1⟩ => ?_
    subst hu
    obtain ⟨N, hN⟩ : ∃ N, N = H'.next := ⟨_, rfl⟩
    have n1 := k1.1
    have dw := ow.dl
    refine lkP 3 [xM 25 23, ⟨⟨exA (.tmp 23) 0⟩, (some 26), none⟩, ⟨⟨exA (.tmp 23) 1⟩, (some 27), none⟩] (by simp (disch := omega) []; exact rfl) ?_
    refine WPO.fresh1 tyOk (k := ⟨frAlloc (.cs 25 6 6 false (.cons (.int .i64 0) (.cons (.int .i64 0) (.cons (.int .i64 0) (.cons (.int .i64 0) (.cons .snil (.cons .snil .nil)))))) .e)⟩) (by kernel_rfl) rfl (by kernel_rfl) (v := .ptr H1.next 0) (x := .cs 25 6 6 false zDv .e) ?_ ?_
    · exact rfl
    obtain ⟨H2, s1, s2, bw, s4⟩ := (newDv H1).store encDv_len ((decD l).dv pw mw dw.c1 dw.c2) (cells_dv _)
    refine WPO.heavy1 tyOk extOk (k := ⟨hvStore ⟨stN 6⟩ (.tmp 4) (.tmp 26)⟩) (by kernel_rfl) rfl (by kernel_rfl) (by simp; exact stN_ob s1) ?_
    have k2 : Keep noB H1 H2 := (Keep.new noB H1 _).trans' s4 fun b hb e => absurd e (by omega)
    have n2 : H2.next = H1.next + 1 := by rw [s2]; simp
    have kk2 := k1.trans k2
    clear s1 s2 s4
    refine lkP 1 [xM 27 5] (by simp (disch := omega) []; exact rfl) ?_
    refine WPO.nilS (WP.seqR ?_)
    refine lkP 1 [xM 0 28] (by simp (disch := omega) []; exact rfl) ?_
    refine WPO.callF (g := 15) rfl rfl rfl (by kernel_rfl) (l := .cons v .nil) (by simp) (lent_ok (h.at kk2) (by omega)).ac fun u H3 ⟨hu, n3, g3, k3⟩ => ?_
    obtain ⟨M, hM⟩ : ∃ M, M = H2.next := ⟨_, rfl⟩
    rw [← hM] at hu n3 g3
    subst hu
    have kk3 := kk2.trans k3
    have bw3 := bw.keep k3 (by omega) id
    have ol3 : OldS H3 (.sl M 0 l.length (some (l.length + 9))) l := ⟨.bb rfl (by omega) g3, .inr (.inl ⟨_, _, _, _, rfl, by omega⟩), fun b e => by cases e; omega⟩
    refine lkP 1 [xM 29 6] (by simp (disch := omega) []; exact rfl) ?_
    refine WPO.nilS (WP.seqR ?_)
    refine lkP 1 [xM 6 31] (by simp (disch := omega) []; exact rfl) ?_
    refine WPO.callF (g := 16) rfl rfl rfl (by kernel_rfl) (l := .cons (.sl M 0 l.length (some (l.length + 9))) .nil) (by simp) (decodePU_ok ol3 (by omega)) fun u H4 ⟨⟨pc, mc, ec, hu, oc⟩, k4⟩ => ?_
    subst hu
    have dc := oc.made.dl
    have n4 := k4.1
    have kk4 := kk3.trans k4
    have bw4 := bw3.keep k4 (by omega) id
    refine lkP 3 [xM 32 30, ⟨⟨exA (.tmp 30) 0⟩, (some 33), none⟩, ⟨⟨exA (.tmp 30) 1⟩, (some 34), none⟩] (by simp (disch := omega) []; exact rfl) ?_
    refine WPO.fresh1 tyOk (k := ⟨frAlloc (.cs 25 6 6 false (.cons (.int .i64 0) (.cons (.int .i64 0) (.cons (.int .i64 0) (.cons (.int .i64 0) (.cons .snil (.cons .snil .nil)))))) .e)⟩) (by kernel_rfl) rfl (by kernel_rfl) (v := .ptr H4.next 0) (x := .cs 25 6 6 false zDv .e) ?_ ?_
    · exact rfl
    obtain ⟨H5, s1, s2, bc, s4⟩ := (newDv H4).store encDv_len ((decD l).dv pc mc dc.c1 dc.c2) (cells_dv _)
    refine WPO.heavy1 tyOk extOk (k := ⟨hvStore ⟨stN 6⟩ (.tmp 7) (.tmp 33)⟩) (by kernel_rfl) rfl (by kernel_rfl) (by simp; exact stN_ob s1) ?_
    have k5 : Keep noB H4 H5 := (Keep.new noB H4 _).trans' s4 fun b hb e => absurd e (by omega)
    have n5 : H5.next = H4.next + 1 := by rw [s2]; simp
    have kk5 := kk4.trans k5
    have bw5 := bw4.keep k5 (by omega) id
    have g5 := (k4.trans k5).get (by omega) id g3
    have oc5 := oc.keep k5 fun _ _ _ => id
    clear s1 s2 s4
    refine lkP 1 [xM 34 8] (by simp (disch := omega) []; exact rfl) ?_
    have ol5 : OldS H5 (.sl M 0 l.length (some (l.length + 9))) l := ⟨.bb rfl (by omega) g5, .inr (.inl ⟨_, _, _, _, rfl, by omega⟩), fun b e => by cases e; omega⟩
    refine WPO.nilS (WP.seqR ?_)
    refine lkP 1 [xM 6 36] (by simp (disch := omega) []; exact rfl) ?_
    refine WPO.callF (g := 16) rfl rfl rfl (by kernel_rfl) (l := .cons (.sl M 0 l.length (some (l.length + 9))) .nil) (by simp) (decodePU_ok ol5 (by omega)) fun u H6 ⟨⟨pd, md, ed, hu, od⟩, k6⟩ => ?_
    subst hu
    have dd := od.made.dl
    have n6 := k6.1
    have kk6 := kk5.trans k6
    have bw6 := bw5.keep k6 (by omega) id
    have bc6 := bc.keep k6 (by omega) id
    have oc6 := oc5.keep k6 fun _ _ _ => id
    refine lkP 3 [xM 37 35, ⟨⟨exA (.tmp 35) 0⟩, (some 38), none⟩, ⟨⟨exA (.tmp 35) 1⟩, (some 39), none⟩] (by simp (disch := omega) []; exact rfl) ?_
    refine WPO.fresh1 tyOk (k := ⟨frAlloc (.cs 25 6 6 false (.cons (.int .i64 0) (.cons (.int .i64 0) (.cons (.int .i64 0) (.cons (.int .i64 0) (.cons .snil (.cons .snil .nil)))))) .e)⟩) (by kernel_rfl) rfl (by kernel_rfl) (v := .ptr H6.next 0) (x := .cs 25 6 6 false zDv .e) ?_ ?_
    · exact rfl
    obtain ⟨H7, s1, s2, bd, s4⟩ := (newDv H6).store encDv_len ((decD l).dv pd md dd.c1 dd.c2) (cells_dv _)
    refine WPO.heavy1 tyOk extOk (k := ⟨hvStore ⟨stN 6⟩ (.tmp 9) (.tmp 38)⟩) (by kernel_rfl) rfl (by kernel_rfl) (by simp; exact stN_ob s1) ?_
    have k7 : Keep noB H6 H7 := (Keep.new noB H6 _).trans' s4 fun b hb e => absurd e (by omega)
    have n7 : H7.next = H6.next + 1 := by rw [s2]; simp
    have kk7 := kk6.trans k7
    have bw7 := bw6.keep k7 (by omega) id
    have bc7 := bc6.keep k7 (by omega) id
    have g7 := (k6.trans k7).get (by omega) id g5
    have oc7 := oc6.keep k7 fun _ _ _ => id
    have od7 := od.keep k7 fun _ _ _ => id
    have ow7 : MadeD H7 N (decD l) pw mw ew := by
      have kq := ((k2.trans k3).trans (k4.trans k5)).trans (k6.trans k7)
      exact ⟨(ow.pages.keep kq fun _ _ _ => id).wide (by omega), ownB_wide (ow.meta_.keep kq fun _ _ => id) (by omega)⟩
    clear s1 s2 s4
    refine lkP 1 [xM 39 10] (by simp (disch := omega) []; exact rfl) ?_
    obtain ⟨B4, hB4⟩ : ∃ B, B = H1.next := ⟨_, rfl⟩
    obtain ⟨B7, hB7⟩ : ∃ B, B = H4.next := ⟨_, rfl⟩
    obtain ⟨B9, hB9⟩ : ∃ B, B = H6.next := ⟨_, rfl⟩
    rw [← hB4, ← hB7, ← hB9]
    rw [← hB4] at bw7
    rw [← hB7] at bc7
    rw [← hB9] at bd
    refine WPO.nilS (WP.keep (l := [(0, v), (4, .ptr B4 0), (5, .int .i64 (decE l)), (6, .sl M 0 l.length (some (l.length + 9))), (7, .ptr B7 0), (8, .int .i64 (decE l)), (9, .ptr B9 0), (10, .int .i64 (decE l))]) (WP.seqR ?_) (by simp))
    refine lkP 2 [xM 6 40, xM 0 41] (by simp (disch := omega) []; exact rfl) ?_
    refine WPO.callF (g := 17) rfl rfl rfl (by kernel_rfl) (l := .cons (.sl M 0 l.length (some (l.length + 9))) (.cons v .nil)) (by simp) (asLent_ok g7 (by omega) (h.at kk7) (by omega)).ac fun u H8 ⟨hu, n8, k8⟩ => ?_
    subst hu
    have kk8 : Keep noB H' H8 := kk7.trans' k8 fun b hb e => absurd e (by omega)
    have bw8 := bw7.keep k8 (by omega) (by omega)
    have bc8 := bc7.keep k8 (by omega) (by omega)
    have bd8 := bd.keep k8 (by omega) (by omega)
    have oc8 := oc7.keep k8 fun b h1 h2 e => by omega
    have od8 := od7.keep k8 fun b h1 h2 e => by omega
    have hml := ow7.meta_
    have ow8 : MadeD H8 N (decD l) pw mw ew := by
      have hlt : ∀ u ∈ pw :: mw :: ew.map (fun a => a.v), ∀ b, blk u = some b → b < M := fun u hu b e => by
        rcases List.mem_cons.1 hu with rfl | hu
        · have := (ow.pages.lst.low e).2; omega
        · rcases List.mem_cons.1 hu with rfl | hu
          · have := (ow.meta_.low e).2; omega
          · obtain ⟨a, ha, rfl⟩ := List.mem_map.1 hu
            have := (pages_low ow.pages ha e).2.1; omega
      refine ⟨⟨ow7.pages.lst.keep k8 fun b e e2 => by have := hlt pw (by simp) b e; omega, ow7.pages.len, fun j a p ha hp => ?_⟩, ow7.meta_.keep k8 fun b e e2 => by have := hlt mw (by simp) b e; omega⟩
      obtain ⟨y1, y2⟩ := ow7.pages.at_ j a p ha hp
      exact ⟨y1, y2.keep k8 fun b e e2 => by have := hlt a.v (by simp; exact .inr (.inr ⟨a, List.mem_of_getElem? ha, rfl⟩)) b e; omega⟩
    have dw8 := ow8.dl
    have dc8 := oc8.made.dl
    have dd8 := od8.made.dl
    obtain ⟨oW, gW, _, _, _, _, _, _, cW⟩ := bw8.dv
    obtain ⟨oC, gC, _, _, _, _, _, _, cC⟩ := bc8.dv
    obtain ⟨oD, gD, _, _, _, _, _, _, cD⟩ := bd8.dv
    refine lkP 1 [xM 42 11] (by simp (disch := omega) []; exact rfl) ?_
    refine WPO.nilS (WP.seqR ?_)
    refine lkP 2 [⟨⟨ldA ⟨ldN 6⟩ (.tmp 7)⟩, (some 43), none⟩, ⟨⟨ldA ⟨ldN 6⟩ (.tmp 4)⟩, (some 44), none⟩] (by simp (disch := omega) [gW, cW, gC, cC]; exact rfl) ?_
    refine WPO.callF (g := 18) rfl rfl rfl (by kernel_rfl) (l := .cons (dlA (decD l) pc mc) (.cons (dlA (decD l) pw mw) .nil)) (by simp [dlA, encDv, Dl.dv]) (same_ok dc8 dw8 (by omega)).ac fun u H9 ⟨hu, k9⟩ => ?_
    subst hu
    have gW9 := k9.get (by omega) id gW
    have gC9 := k9.get (by omega) id gC
    have gD9 := k9.get (by omega) id gD
    refine lkP 1 [xM 45 12] (by simp (disch := omega) []; exact rfl) ?_
    refine WPO.nilS (WP.seqR ?_)
    refine lkP 2 [⟨⟨ldA ⟨ldN 6⟩ (.tmp 9)⟩, (some 46), none⟩, ⟨⟨ldA ⟨ldN 6⟩ (.tmp 4)⟩, (some 47), none⟩] (by simp (disch := omega) [gW9, cW, gD9, cD]; exact rfl) ?_
    refine WPO.callF (g := 18) rfl rfl rfl (by kernel_rfl) (l := .cons (dlA (decD l) pd md) (.cons (dlA (decD l) pw mw) .nil)) (by simp [dlA, encDv, Dl.dv]) (same_ok (dd8.keep k9) (dw8.keep k9) (by omega)).ac fun u Ha ⟨hu, ka⟩ => ?_
    subst hu
    have n9 := k9.1
    have na := ka.1
    have k89 := k9.trans ka
    have gCa := ka.get (by omega) id gC9
    have gDa := ka.get (by omega) id gD9
    have oca := oc8.keep k89 fun _ _ _ => id
    have oda := od8.keep k89 fun _ _ _ => id
    refine lkP 1 [xM 48 13] (by simp (disch := omega) []; exact rfl) ?_
    refine WPO.nilS (WP.seq (WP.seqR ?_))
    refine lkP 20 [xM 11 49, xU 49 50, xM 50 51, yM 8 52 51 false, yM 5 53 51 false, yB akNeq 52 53 54 51 false, xP 51 54 55 true, xM 55 56, yM 10 57 56 false, yM 5 58 56 false, yB akNeq 57 58 59 56 false, xP 56 59 60 true, xM 60 61, yM 12 62 61 false, ⟨lkUn ukNot (.tmp 62), (some 63), (some (61, false))⟩, xP 61 63 64 true, xM 64 65, yM 13 66 65 false, ⟨lkUn ukNot (.tmp 66), (some 67), (some (65, false))⟩, xP 65 67 68 true] (by simp (disch := omega) []; exact rfl) ?_
    refine WPO.nilS (WP.cond (t := false) (by simp) (by simp) fun _ => WP.skip (.inl rfl) (WP.seqR ?_))
    refine lkP 2 [⟨⟨ldA ⟨ldN 6⟩ (.tmp 7)⟩, (some 69), none⟩, ⟨⟨ldA ⟨ldN 6⟩ (.tmp 9)⟩, (some 70), none⟩] (by simp (disch := omega) [gCa, cC, gDa, cD]; exact rfl) ?_
    refine WPO.callF (g := 19) rfl rfl rfl (by kernel_rfl) (l := .cons (dlA (decD l) pc mc) (.cons (dlA (decD l) pd md) .nil)) (by simp [dlA, encDv, Dl.dv]) (ownedD_ok oca oda (by omega) (fun u hu b e => by have := (oc.low u hu b e).2; omega) (by omega) (by omega) (by omega) (by omega) (fun p hp => by have := sm3 p hp; omega) (fun p hp => by have := sm3 p hp; omega)) fun u Hb ⟨hu, kb⟩ => ?_
    subst hu
    refine lkP 1 [xM 71 2] (by simp (disch := omega) []; exact rfl) ?_
    exact WPO.nilS (WP.ret (endR _ (by simp; rfl) ⟨rfl, (kk8.trans k89).trans' kb fun b hb e => absurd e (by omega)⟩))
end
end Go.Proofs.YtoigokkeaddceaaGreatDoor
