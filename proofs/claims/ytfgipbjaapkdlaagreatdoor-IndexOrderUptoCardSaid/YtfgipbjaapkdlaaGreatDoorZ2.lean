/- Contracts of calls and rules for code. Conditions: in each theorem. -/
import Derived.Test.YtfgipbjaapkdlaaGreatDoorZ1
namespace Go.Xq
noncomputable section
section
variable {P : Program} {E : Env} (hE : TyOk P E) {o : Oper}
include hE
end
end
end Go.Xq
namespace Go.Xq
noncomputable section
def AR (P : Program) (l : Nat) (args : AV) (H : AH) (Q : AV → AH → Prop) : Prop :=
  ∀ m w vs i, Rel m H w → VL m args vs → m l = some i → ∃ f tmps a b, (Instr.yield i.blk vs.toArray).run P w = .ok (.round i.blk f tmps a b) w ∧ XR P i.blk f tmps a b w fun v' w' => ∃ v H2, Q v H2 ∧ Post m H w v H2 v' w'
section
variable {P : Program} {E : Env} {b : Frame} {n : Cx} {T T2 : Tr AV} {D D2 : List ADf} {H H2 : AH} {Q Q' : Out → Prop} {its its2 : List Item}
def EndR (l : Nat) (T : Tr AV) (D : List ADf) (Q : Out → Prop) (H : AH) : Prop :=
  ∃ q, H.get l = some (.loop q) ∧ q.state ≠ .busy ∧ match q.pending with
    | none => Q (.nor T D (H.set l (.loop { q with state := .exhausted })))
    | some c => match c with
      | .ret => Q (.ret T D (H.set l (.loop { q with state := .exhausted })))
      | .exit id => Q (.ext id T D (H.set l (.loop { q with state := .exhausted })))
      | _ => False
def RndP (l : Nat) (Q : AV → AH → Prop) (jump : Option Code) (D : List ADf) (H : AH) : Prop :=
  D = [] ∧ ∃ q, H.get l = some (.loop q) ∧ Q (.bool jump.isNone) (H.set l (.loop { q with state := if jump.isNone then .ready else .done, pending := jump }))
def RoundP (l : Nat) (Q : AV → AH → Prop) : Out → Prop
  | .nor _ D H => RndP l Q none D H
  | .ret _ D H => RndP l Q (some .ret) D H
  | .ext id _ D H => RndP l Q (some (.exit id)) D H
  | .bad => False
end
end
end Go.Xq
namespace Go.Xq
noncomputable section
def avl : List AV → AV
  | [] => .nil
  | v :: r => .cons v (avl r)
@[simp] theorem avl_nil : avl [] = .nil := rfl
@[simp] theorem avl_cons (v : AV) (r : List AV) : avl (v :: r) = .cons v (avl r) := rfl
@[simp] theorem len_avl : ∀ l : List AV, AV.len (avl l) = l.length
  | [] => rfl
  | v :: r => by show Nat.succ (AV.len (avl r)) = _; rw [len_avl r]; rfl
theorem app_avl : ∀ a b : List AV, AV.app (avl a) (avl b) = avl (a ++ b)
  | [], b => by cases b <;> rfl
  | v :: a, b => by show AV.cons v (AV.app (avl a) (avl b)) = _; rw [app_avl a b]; rfl
theorem nth_avl : ∀ (l : List AV) (i : Nat), AV.nth i (avl l) = l[i]?
  | [], 0 => rfl
  | [], _ + 1 => rfl
  | v :: r, 0 => rfl
  | v :: r, i + 1 => by show AV.nth i (avl r) = _; rw [nth_avl r i]; simp
theorem toTr_avl : ∀ (l : List AV) (i : Nat) (t : Tr AV) (k : Nat), (toTr (avl l) i t).get (bits k) = if i ≤ k ∧ k < i + l.length then l[k - i]? else t.get (bits k)
  | [], i, t, k => by rw [if_neg (by simp)]; rfl
  | v :: r, i, t, k => by
    show (toTr (avl r) (i + 1) (t.put (some v) (bits i))).get (bits k) = _
    rw [toTr_avl r (i + 1) _ k]
    simp only [List.length_cons]
    by_cases e : k = i
    · subst e
      rw [if_neg (by omega), if_pos (by omega), Tr.get_put_same, Nat.sub_self]; rfl
    · rw [Tr.get_put_ne _ _ _ _ (bits_ne (Ne.symm e))]
      by_cases h : i + 1 ≤ k ∧ k < i + 1 + r.length
      · rw [if_pos h, if_pos (by omega), show k - i = (k - (i + 1)) + 1 from by omega, List.getElem?_cons_succ]
      · rw [if_neg h, if_neg (by omega)]
theorem wrCell_cs {e es sz : Nat} {op : Bool} {z : AV} {t : Tr AV} {i : Nat} {v : AV} (hi : i < sz) (hv : isCell v = true) :
    wrCell (.cs e es sz op z t) i v = some (.cs e es sz op z (t.put (some v) (bits i))) := by
  show bt (Nat.blt i sz) (bt (isCell v) _ none) none = _
  rw [blt_true hi, bt_true, hv, bt_true]
theorem rdCell_cs {e es sz : Nat} {op : Bool} {z : AV} {t : Tr AV} {i : Nat} (hi : i < sz) : rdCell (.cs e es sz op z t) i = oc (t.get (bits i)) (AV.nth (i % es) z) some := by
  show bt (Nat.blt i sz) _ none = _
  rw [blt_true hi, bt_true]; rfl
theorem rdCell_put {e es sz : Nat} {op : Bool} {z : AV} {t : Tr AV} {i j : Nat} {v : AV} (hj : j < sz) : rdCell (.cs e es sz op z (t.put (some v) (bits i))) j = if j = i then some v else rdCell (.cs e es sz op z t) j := by
  rw [rdCell_cs hj, rdCell_cs hj]
  by_cases e : j = i
  · subst e; rw [if_pos rfl, Tr.get_put_same]; rfl
  · rw [if_neg e, Tr.get_put_ne _ _ _ _ (bits_ne (Ne.symm e))]
theorem wrCells_cs {e es sz : Nat} {op : Bool} {z : AV} : ∀ (vs : List AV) (t : Tr AV) (i : Nat), i + vs.length ≤ sz → (∀ v ∈ vs, isCell v = true) →
    ∃ t', wrCells (avl vs) (.cs e es sz op z t) i = some (.cs e es sz op z t') ∧ ∀ j, j < sz → rdCell (.cs e es sz op z t') j = if i ≤ j ∧ j < i + vs.length then vs[j - i]? else rdCell (.cs e es sz op z t) j
  | [], t, i, _, _ => ⟨t, rfl, fun j _ => by rw [if_neg (by simp)]⟩
  | v :: r, t, i, h, hc => by
    simp only [List.length_cons] at h
    obtain ⟨t', h1, h2⟩ := wrCells_cs (e := e) (es := es) (sz := sz) (op := op) (z := z) r (t.put (some v) (bits i)) (i + 1) (by omega) fun u hu => hc u (List.mem_cons_of_mem _ hu)
    refine ⟨t', ?_, fun j hj => ?_⟩
    · show ob (wrCell _ i v) (fun o' => wrCells (avl r) o' (i + 1)) = _
      rw [wrCell_cs (i := i) (sz := sz) (by omega) (hc v (by simp)), ob_some', h1]
    · rw [h2 j hj, rdCell_put hj]
      simp only [List.length_cons]
      by_cases e1 : j = i
      · subst e1; rw [if_neg (by omega), if_pos rfl, if_pos (by omega), Nat.sub_self]; rfl
      · by_cases h3 : i + 1 ≤ j ∧ j < i + 1 + r.length
        · rw [if_pos h3, if_pos (by omega), show j - i = (j - (i + 1)) + 1 from by omega, List.getElem?_cons_succ]
        · rw [if_neg h3, if_neg e1, if_neg (by omega)]
theorem rdCells_of {o : AObj} : ∀ (l : List AV) (i : Nat), (∀ j v, l[j]? = some v → rdCell o (i + j) = some v) → rdCells o l.length i = some (avl l)
  | [], i, _ => rfl
  | v :: r, i, h => by
    show ob (rdCell o i) (fun v => ob (rdCells o r.length (i + 1)) fun l => some (AV.cons v l)) = _
    rw [show rdCell o i = some v from h 0 v rfl, ob_some', rdCells_of r (i + 1) (fun j u hj => by
      have := h (j + 1) u (by simpa using hj)
      rwa [show i + (j + 1) = i + 1 + j from by omega] at this)]
    rfl
section
variable {α : Type} {enc : α → List AV} {e es off : Nat} {op : Bool} {z : AV} {els : List α} {o : AObj}
def RdE (enc : α → List AV) (es off : Nat) (els : List α) (o : AObj) : Prop :=
  ∀ k a, els[k]? = some a → ∀ j v, (enc a)[j]? = some v → rdCell o (off + k * es + j) = some v
theorem RdE.elem (h : RdE enc es off els o) {k : Nat} {a : α} (ha : els[k]? = some a) (hl : (enc a).length = es) : rdCells o es (off + k * es) = some (avl (enc a)) := by
  have := rdCells_of (enc a) (off + k * es) (h k a ha)
  rwa [hl] at this
theorem RdE.tail {a : α} {r : List α} (h : RdE enc es off (a :: r) o) : RdE enc es (off + es) r o := by
  intro k b hb j v hv
  have := h (k + 1) b (by simpa using hb) j v hv
  rwa [Nat.add_mul, Nat.one_mul, show off + (k * es + es) + j = off + es + k * es + j from by omega] at this
theorem length_flatMap (hl : ∀ a, (enc a).length = es) (els : List α) : (els.flatMap enc).length = els.length * es := by
  induction els with
  | nil => simp
  | cons a r ih => rw [List.flatMap_cons, List.length_append, hl, ih, List.length_cons, Nat.add_mul]; omega
theorem RdE.flat (hl : ∀ a, (enc a).length = es) : ∀ {els : List α} {off : Nat}, RdE enc es off els o → ∀ j v, (els.flatMap enc)[j]? = some v → rdCell o (off + j) = some v
  | [], _, _, j, v, hv => by simp at hv
  | a :: r, off, h, j, v, hv => by
    rw [List.flatMap_cons] at hv
    by_cases hj : j < es
    · rw [List.getElem?_append_left (by rw [hl]; exact hj)] at hv
      have := h 0 a rfl j v hv
      rwa [Nat.zero_mul, Nat.add_zero] at this
    · rw [List.getElem?_append_right (by rw [hl]; omega), hl] at hv
      have := RdE.flat hl h.tail (j - es) v hv
      rwa [show off + es + (j - es) = off + j from by omega] at this
theorem RdE.all (h : RdE enc es off els o) (hl : ∀ a, (enc a).length = es) : rdCells o (els.length * es) off = some (avl (els.flatMap enc)) := by
  have := rdCells_of (els.flatMap enc) off (h.flat hl)
  rwa [length_flatMap hl] at this
theorem RdE.take (h : RdE enc es off els o) (n : Nat) : RdE enc es off (els.take n) o := by
  intro k a ha
  refine h k a ?_
  rcases Nat.lt_or_ge k n with hk | hk
  · rwa [List.getElem?_take_of_lt hk] at ha
  · rw [List.getElem?_eq_none (by simp; omega)] at ha; cases ha
def ElB (enc : α → List AV) (e es : Nat) (op : Bool) (z : AV) (els : List α) (o : AObj) : Prop :=
  ∃ t, o = .cs e es (els.length * es) op z t ∧ RdE enc es 0 els o
theorem ElB.rd (h : ElB enc e es op z els o) : RdE enc es 0 els o := h.choose_spec.2
theorem el_lt {n k es j : Nat} (hk : k < n) (hj : j < es) : k * es + j < n * es := by
  have := Nat.mul_le_mul_right es (Nat.succ_le_of_lt hk)
  rw [Nat.succ_mul] at this; omega
theorem el_other {k i es j : Nat} (hj : j < es) (hki : k ≠ i) : ¬ (i * es ≤ k * es + j ∧ k * es + j < i * es + es) := by
  intro ⟨h1, h2⟩
  rcases Nat.lt_or_gt_of_ne hki with h | h
  · have := Nat.mul_le_mul_right es (Nat.succ_le_of_lt h)
    rw [Nat.succ_mul] at this; omega
  · have := Nat.mul_le_mul_right es (Nat.succ_le_of_lt h)
    rw [Nat.succ_mul] at this; omega
theorem get_lt {l : List α} {k : Nat} {a : α} (h : l[k]? = some a) : k < l.length := by
  rcases Nat.lt_or_ge k l.length with h' | h'
  · exact h'
  · rw [List.getElem?_eq_none h'] at h; cases h
theorem ElB.set (hl : ∀ a, (enc a).length = es) (h : ElB enc e es op z els o) {i : Nat} {a : α} (hi : i < els.length) (hc : ∀ v ∈ enc a, isCell v = true) :
    ∃ o', wrCells (avl (enc a)) o (i * es) = some o' ∧ ElB enc e es op z (els.set i a) o' := by
  obtain ⟨t, rfl, hr⟩ := h
  have hle : i * es + es ≤ els.length * es := by
    have := Nat.mul_le_mul_right es (Nat.succ_le_of_lt hi)
    rwa [Nat.succ_mul] at this
  obtain ⟨t', h1, h2⟩ := wrCells_cs (e := e) (es := es) (sz := els.length * es) (op := op) (z := z) (enc a) t (i * es) (by rw [hl]; exact hle) hc
  refine ⟨_, h1, t', by rw [List.length_set], ?_⟩
  intro k b hb j v hv
  have hj : j < es := by rw [← hl b]; exact get_lt hv
  have hk : k < els.length := by have := get_lt hb; simpa using this
  rw [Nat.zero_add, h2 _ (el_lt hk hj), hl]
  by_cases e1 : k = i
  · subst e1
    rw [List.getElem?_set_self (by simpa using hk)] at hb
    cases hb
    rw [if_pos ⟨by omega, by omega⟩, Nat.add_sub_cancel_left]; exact hv
  · rw [List.getElem?_set_ne (Ne.symm e1)] at hb
    rw [if_neg (el_other hj e1)]
    have := hr k b hb j v hv
    rwa [Nat.zero_add] at this
theorem ElB.setF (hl : ∀ a, (enc a).length = es) (h : ElB enc e es op z els o) {i f : Nat} {a a' : α} {v : AV} (hi : els[i]? = some a) (hf : f < es) (ha : enc a' = (enc a).set f v) (hv : isCell v = true) :
    ∃ o', wrCell o (i * es + f) v = some o' ∧ ElB enc e es op z (els.set i a') o' := by
  obtain ⟨t, rfl, hr⟩ := h
  have hil := get_lt hi
  refine ⟨_, wrCell_cs (el_lt hil hf) hv, _, by rw [List.length_set], ?_⟩
  intro k b hb j u hu
  have hj : j < es := by rw [← hl b]; exact get_lt hu
  have hk : k < els.length := by have := get_lt hb; simpa using this
  rw [Nat.zero_add, rdCell_put (el_lt hk hj)]
  by_cases e1 : k = i
  · subst e1
    rw [List.getElem?_set_self (by simpa using hk)] at hb
    cases hb
    rw [ha] at hu
    by_cases e2 : j = f
    · subst e2
      rw [List.getElem?_set_self (by rw [hl]; exact hj)] at hu
      rw [if_pos rfl]; exact hu
    · rw [List.getElem?_set_ne (Ne.symm e2)] at hu
      rw [if_neg (by omega)]
      have := hr k a hi j u hu
      rwa [Nat.zero_add] at this
  · rw [List.getElem?_set_ne (Ne.symm e1)] at hb
    rw [if_neg (fun e2 => el_other (i := i) hj e1 (by omega))]
    have := hr k b hb j u hu
    rwa [Nat.zero_add] at this
theorem ElB.new (hl : ∀ a, (enc a).length = es) (els : List α) : ∃ o, mkCs e es z op (avl (els.flatMap enc)) = some o ∧ ElB enc e es op z els o := by
  refine ⟨_, rfl, toTr (avl (els.flatMap enc)) 0 .e, by rw [len_avl, length_flatMap hl], ?_⟩
  intro k a ha j v hv
  have hj : j < es := by rw [← hl a]; exact get_lt hv
  have hlt := el_lt (get_lt ha) hj
  have hn : (els.flatMap enc).length = els.length * es := length_flatMap hl els
  have hflat : (els.flatMap enc)[k * es + j]? = some v := by
    clear hlt hn
    induction els generalizing k with
    | nil => simp at ha
    | cons b r ih =>
      rw [List.flatMap_cons]
      cases k with
      | zero =>
        simp at ha; subst ha
        rw [Nat.zero_mul, Nat.zero_add, List.getElem?_append_left (by rw [hl]; exact hj)]; exact hv
      | succ k =>
        rw [Nat.succ_mul, List.getElem?_append_right (by rw [hl]; omega), hl, show k * es + es + j - es = k * es + j from by omega]
        exact ih k (by simpa using ha)
  rw [Nat.zero_add, len_avl, hn, rdCell_cs hlt, toTr_avl, if_pos ⟨by omega, by omega⟩, Nat.sub_zero, hflat]; rfl
theorem ElB.zeros (hl : ∀ a, (enc a).length = es) {a : α} (hz : z = avl (enc a)) (n : Nat) : ElB enc e es op z (List.replicate n a) (.cs e es (n * es) op z .e) := by
  refine ⟨.e, by rw [List.length_replicate], ?_⟩
  intro k b hb j v hv
  have hk : k < n := by have := get_lt hb; simpa using this
  rw [List.getElem?_replicate_of_lt hk] at hb
  cases hb
  have hj : j < es := by rw [← hl a]; exact get_lt hv
  rw [Nat.zero_add, rdCell_cs (el_lt hk hj)]
  have he : (Tr.e : Tr AV).get (bits (k * es + j)) = none := by cases bits (k * es + j) <;> rfl
  rw [he]
  show AV.nth ((k * es + j) % es) z = _
  rw [Nat.add_comm, Nat.add_mul_mod_self_right, Nat.mod_eq_of_lt hj, hz, nth_avl]; exact hv
theorem ElB.opn (h : ElB enc e es op z els o) : ∃ t, o = .cs e es (els.length * es) op z t := ⟨_, h.choose_spec.1⟩
end
def BytesAt (o : AObj) (off : Nat) (l : List UInt8) : Prop := ∀ i b, l[i]? = some b → rdCell o (off + i) = some (.int .u8 (b.toNat : Int))
theorem bytesAt_bb (e : Nat) (o : Bool) (l : List UInt8) : BytesAt (bb e o l) 0 l := by
  intro i b h
  have hi := get_lt h
  rw [Nat.zero_add, rd_bb hi]
  rw [List.getElem?_eq_getElem hi] at h
  cases h; rfl
theorem BytesAt.pre {o : AObj} {off : Nat} {l r : List UInt8} (h : BytesAt o off (l ++ r)) : BytesAt o off l := by
  intro i b hb
  exact h i b (by rw [List.getElem?_append_left (get_lt hb)]; exact hb)
theorem leA_bytes : ∀ l : List UInt8, leA (avl (l.map fun b => AV.int .u8 (b.toNat : Int))) = some (leNat l)
  | [] => rfl
  | b :: r => by
    show bt (Nat.beq (kIx .u8) 4) (bt (Nat.blt b.toNat 256) (ob (leA (avl (r.map fun b => AV.int .u8 (b.toNat : Int)))) fun m => some (b.toNat + 256 * m)) none) none = _
    rw [leA_bytes r, blt_true b.toNat_lt]; rfl
theorem BytesAt.rds {o : AObj} {off : Nat} {l : List UInt8} (h : BytesAt o off l) : rdCells o l.length off = some (avl (l.map fun b => AV.int .u8 (b.toNat : Int))) := by
  have := rdCells_of (o := o) (l.map fun b => AV.int .u8 (b.toNat : Int)) off fun j v hv => by
    rw [List.getElem?_map] at hv
    cases hb : l[j]? with
    | none => rw [hb] at hv; cases hv
    | some b => rw [hb] at hv; cases hv; exact h j b hb
  rwa [List.length_map] at this
theorem bytesSl_of {H : AH} {b off : Nat} {o : AObj} {l : List UInt8} (hb : l ≠ [] → H.get b = some o) (h : BytesAt o off l) : bytesSl H b off l.length = some (l.length, leNat l) := by
  cases hl : l with
  | nil => rfl
  | cons x r =>
    have hb := hb (by rw [hl]; simp)
    have e : l.length = r.length + 1 := by rw [hl]; rfl
    rw [← hl, e]
    show nc (r.length + 1) _ _ = _
    rw [nc_succ, hb, ob_some', ← e]
    cases o with
    | bys el size opn n =>
      show bytesBy size n off l.length = _
      have hsz : off + l.length ≤ size := by
        have hlast : l[r.length]? = some (l[r.length]'(by omega)) := List.getElem?_eq_getElem (by omega)
        have := h r.length _ hlast
        have h2 : (bt (Nat.blt (off + r.length) size) (some (AV.int .u8 (.ofNat (byteAt n (off + r.length))))) none) = some (.int .u8 ((l[r.length]'(by omega)).toNat : Int)) := this
        simp only [bt_some] at h2
        have := h2.1
        simp [Nat.blt_eq] at this
        omega
      show bt (Nat.ble (off + l.length) size) (some (l.length, cutN n off l.length)) none = _
      rw [ble_true hsz, bt_true]
      congr 2
      refine leNat_ext (l := l) rfl (cutN_lt _ _ _) fun i hi => ⟨l[i], List.getElem?_eq_getElem hi, ?_⟩
      rw [byteAt_cut _ _ _ _ hi]
      have h3 : (bt (Nat.blt (off + i) size) (some (AV.int .u8 (.ofNat (byteAt n (off + i))))) none) = some (.int .u8 ((l[i]'hi).toNat : Int)) := h i _ (List.getElem?_eq_getElem hi)
      simp only [bt_some, Option.some.injEq, AV.int.injEq, true_and] at h3
      have := h3.2
      exact Int.ofNat.inj this
    | cs el es size opn z t =>
      show ob (rdCells (.cs el es size opn z t) l.length off) _ = _
      rw [h.rds, ob_some', leA_bytes]; rfl
    | ro x' f =>
      show ob (rdCells (.ro x' f) l.length off) _ = _
      rw [h.rds, ob_some', leA_bytes]; rfl
    | loop _ => have := h 0 x (by rw [hl]; rfl); cases this
    | dfr _ => have := h 0 x (by rw [hl]; rfl); cases this
    | mit _ _ _ _ => have := h 0 x (by rw [hl]; rfl); cases this
    | mp _ _ => have := h 0 x (by rw [hl]; rfl); cases this
def RdS (H : AH) (v : AV) (l : List UInt8) : Prop :=
  (v = .snil ∧ l = []) ∨ ∃ b off cap, v = .sl b off l.length cap ∧ (l ≠ [] → b < H.next ∧ ∃ o, H.get b = some o ∧ BytesAt o off l)
theorem RdS.bytesA {H : AH} {v : AV} {l : List UInt8} (h : RdS H v l) : bytesA H v = some (l.length, leNat l) := by
  rcases h with ⟨rfl, rfl⟩ | ⟨b, off, cap, rfl, h⟩
  · rfl
  · show bytesSl H b off l.length = _
    cases l with
    | nil => rfl
    | cons x r =>
      obtain ⟨_, o, h1, h2⟩ := h (by simp)
      exact bytesSl_of (fun _ => h1) h2
theorem RdS.len {H : AH} {v : AV} {l : List UInt8} (h : RdS H v l) : onSl v (some (AV.int .i64 0)) (fun _ _ n _ => some (.int .i64 (n : Int))) = some (.int .i64 (l.length : Int)) := by
  rcases h with ⟨rfl, rfl⟩ | ⟨b, off, cap, rfl, _⟩ <;> rfl
theorem RdS.str {H : AH} {v : AV} {l : List UInt8} (h : RdS H v l) : onSl v (some (AV.str 0 0)) (fun b off len _ => ob (bytesSl H b off len) fun r => some (.str r.1 r.2)) = some (sb l) := by
  have h1 := h.bytesA
  rcases h with ⟨rfl, rfl⟩ | ⟨b, off, cap, rfl, _⟩
  · rfl
  · have h1 : bytesSl H b off l.length = some (l.length, leNat l) := h1
    show ob (bytesSl H b off l.length) _ = _
    rw [h1]; rfl
theorem RdS.lengthA {H : AH} {v : AV} {l : List UInt8} (h : RdS H v l) : lengthA v = some l.length := by
  rcases h with ⟨rfl, rfl⟩ | ⟨b, off, cap, rfl, _⟩ <;> rfl
end
end Go.Xq
namespace Go.Xq
noncomputable section
def DC (P : Program) (kind : CallKind) (f : Nat) (args : AV) (H : AH) (Q : AV → AH → Prop) : Prop :=
  ∃ v H2, Q v H2 ∧ AC P kind f args H fun v' H' => v' = v ∧ H' = H2
def WD (P : Program) (b : Frame) (n : Cx) (its : List Item) (T : Tr AV) (D : List ADf) (H : AH) (Q : Out → Prop) : Prop :=
  ∃ o, Q o ∧ WP P b n its T D H fun o' => o' = o
def WDO (P : Program) (b : Frame) (n : Cx) (ops : Array Oper) (r : List Oper) (T : Tr AV) (D : List ADf) (H : AH) (Q : Out → Prop) : Prop :=
  ∃ o, Q o ∧ WPO P b n ops r T D H fun o' => o' = o
section
variable {P : Program} {E : Env} {b : Frame} {n : Cx} {T T2 : Tr AV} {D D2 : List ADf} {H H2 : AH} {Q Q' : Out → Prop} {its its2 : List Item}
theorem DC.ac {kind f args H} {Q : AV → AH → Prop} (h : DC P kind f args H Q) : AC P kind f args H Q := by
  obtain ⟨v, H2, hq, h⟩ := h
  exact h.mono fun _ _ e => by obtain ⟨rfl, rfl⟩ := e; exact hq
theorem DC.mono {kind f args H} {Q Q' : AV → AH → Prop} (h : DC P kind f args H Q) (hq : ∀ v H2, Q v H2 → Q' v H2) : DC P kind f args H Q' := by
  obtain ⟨v, H2, h1, h⟩ := h
  exact ⟨v, H2, hq _ _ h1, h⟩
theorem WD.mono (h : WD P b n its T D H Q) (hq : ∀ o, Q o → Q' o) : WD P b n its T D H Q' := by
  obtain ⟨o, h1, h⟩ := h
  exact ⟨o, hq o h1, h⟩
theorem WD.skip {c : Code} (hc : c = .skip ∨ ∃ l, c = .label l) (hq : Q (.nor T D H)) : WD P b n [.code c] T D H Q := ⟨_, hq, WP.skip hc rfl⟩
theorem WD.exit {id : Nat} (hq : Q (.ext id T D H)) : WD P b n [.code (.exit id)] T D H Q := ⟨_, hq, WP.exit rfl⟩
theorem WD.ret (hq : Q (.ret T D H)) : WD P b n [.code .ret] T D H Q := ⟨_, hq, WP.ret rfl⟩
theorem WD.seq {c d : Code} (h : WD P b n [.code c] T D H fun o => match o with
      | .nor T2 D2 H2 => WD P b n [.code d] T2 D2 H2 Q
      | o => Q o) : WD P b n [.code (.seq c d)] T D H Q := by
  obtain ⟨o, hq, h⟩ := h
  cases o with
  | bad => exact ⟨_, hq, WP.seq (h.mono fun _ e => by rw [e])⟩
  | ret => exact ⟨_, hq, WP.seq (h.mono fun _ e => by rw [e])⟩
  | ext => exact ⟨_, hq, WP.seq (h.mono fun _ e => by rw [e])⟩
  | nor T2 D2 H2 =>
    obtain ⟨o2, hq2, h2⟩ := hq
    exact ⟨o2, hq2, WP.seq (h.mono fun _ e => by rw [e]; exact h2)⟩
theorem WD.cond {q : Operand} {c d : Code} {t : Bool} (ht : opnd q T = some (.bool t)) (h1 : t = true → WD P b n [.code c] T D H Q) (h2 : t = false → WD P b n [.code d] T D H Q) :
    WD P b n [.code (.cond q c d)] T D H Q := by
  cases t with
  | true => obtain ⟨o, hq, h⟩ := h1 rfl; exact ⟨o, hq, WP.cond ht (fun _ => h) (fun e => by cases e)⟩
  | false => obtain ⟨o, hq, h⟩ := h2 rfl; exact ⟨o, hq, WP.cond ht (fun e => by cases e) (fun _ => h)⟩
theorem WD.block {id : Nat} {c : Code} (h : WD P b n [.code c] T D H fun o => Q (bOut id o)) : WD P b n [.code (.block id c)] T D H Q := by
  obtain ⟨o, hq, h⟩ := h
  exact ⟨_, hq, WP.block (h.mono fun _ e => by rw [e])⟩
theorem WD.keep {l k : List (Nat × AV)} (h : WD P b n its (tl l) D H Q) (hs : lsub l k) : WD P b n its (tl k) D H Q := by
  obtain ⟨o, hq, h⟩ := h
  exact ⟨o, hq, h.keep hs⟩
theorem WP.round {c : Code} {o : Out} (h : WP P b n [.code c] T D H fun o' => match o' with
      | .nor T2 D2 H2 => WP P b n [.inLoop c] T2 D2 H2 fun o' => o' = o
      | o' => o' = o) : WP P b n [.inLoop c] T D H fun o' => o' = o := by
  intro m w a K cs hcs hr hf
  obtain ⟨o1, hq, hb, ho⟩ := h m w a (.inLoop c :: K) cs hcs hr hf
  have hs : Steps P (lone (b.atR a ([.inLoop c] ++ K)) cs w) (lone (b.atR a ([.code c] ++ (.inLoop c :: K))) cs w) := .one stepR_inLoop
  cases o1 with
  | bad => exact absurd rfl hb
  | nor T2 D2 H2 =>
    obtain ⟨m2, a2, w2, g1, g2, g3⟩ := ho
    obtain ⟨o2, q1, q2, q3⟩ := hq m2 w2 a2 K cs hcs g1.rel g2
    exact ⟨o2, q1, q2, OutOk.steps (hs.trans g3) g1 q3⟩
  | ext id T2 D2 H2 =>
    obtain ⟨m2, a2, w2, K2, g1, g2, g3, g4⟩ := ho
    exact ⟨_, hq, by simp, m2, a2, w2, K2, g1, g2, g3, hs.trans g4⟩
  | ret T2 D2 H2 =>
    obtain ⟨m2, a2, w2, K2, g1, g2, g3⟩ := ho
    exact ⟨_, hq, by simp, m2, a2, w2, K2, g1, g2, hs.trans g3⟩
theorem WP.ofIn {c : Code} (h : WP P b n [.code c] T D H fun o' => match o' with
      | .nor T2 D2 H2 => WP P b n [.inLoop c] T2 D2 H2 Q
      | o' => Q o') : WP P b n [.code (.loop c)] T D H Q := by
  intro m w a K cs hcs hr hf
  obtain ⟨o1, hq, hb, ho⟩ := h m w a (.inLoop c :: K) cs hcs hr hf
  have hs : Steps P (lone (b.atR a ([.code (.loop c)] ++ K)) cs w) (lone (b.atR a ([.code c] ++ (.inLoop c :: K))) cs w) := .one stepR_loop
  cases o1 with
  | bad => exact absurd rfl hb
  | nor T2 D2 H2 =>
    obtain ⟨m2, a2, w2, g1, g2, g3⟩ := ho
    obtain ⟨o2, q1, q2, q3⟩ := hq m2 w2 a2 K cs hcs g1.rel g2
    exact ⟨o2, q1, q2, OutOk.steps (hs.trans g3) g1 q3⟩
  | ext id T2 D2 H2 =>
    obtain ⟨m2, a2, w2, K2, g1, g2, g3, g4⟩ := ho
    exact ⟨_, hq, by simp, m2, a2, w2, K2, g1, g2, g3, hs.trans g4⟩
  | ret T2 D2 H2 =>
    obtain ⟨m2, a2, w2, K2, g1, g2, g3⟩ := ho
    exact ⟨_, hq, by simp, m2, a2, w2, K2, g1, g2, hs.trans g3⟩
theorem WD.inLoop {c : Code} (I : Nat → Tr AV → List ADf → AH → Prop)
    (hstep : ∀ k T D H, I k T D H → WD P b n [.code c] T D H fun o => match o with
      | .nor T2 D2 H2 => ∃ j, j < k ∧ I j T2 D2 H2
      | o => Q o) : ∀ k T D H, I k T D H → WD P b n [.inLoop c] T D H Q := by
  intro k
  induction k using Nat.strongRecOn with
  | ind k ih =>
    intro T D H hI
    obtain ⟨o, hq, h⟩ := hstep k T D H hI
    cases o with
    | bad => exact ⟨_, hq, WP.round (h.mono fun _ e => by rw [e])⟩
    | ret => exact ⟨_, hq, WP.round (h.mono fun _ e => by rw [e])⟩
    | ext => exact ⟨_, hq, WP.round (h.mono fun _ e => by rw [e])⟩
    | nor T2 D2 H2 =>
      obtain ⟨j, hj, hI2⟩ := hq
      obtain ⟨o2, hq2, h2⟩ := ih j hj T2 D2 H2 hI2
      exact ⟨o2, hq2, WP.round (h.mono fun _ e => by rw [e]; exact h2)⟩
theorem WD.loop {c : Code} (I : Nat → Tr AV → List ADf → AH → Prop) {k : Nat} (h0 : I k T D H)
    (hstep : ∀ k T D H, I k T D H → WD P b n [.code c] T D H fun o => match o with
      | .nor T2 D2 H2 => ∃ j, j < k ∧ I j T2 D2 H2
      | o => Q o) : WD P b n [.code (.loop c)] T D H Q := by
  obtain ⟨o, hq, h⟩ := hstep k T D H h0
  cases o with
  | bad => exact ⟨_, hq, WP.ofIn (h.mono fun _ e => by rw [e])⟩
  | ret => exact ⟨_, hq, WP.ofIn (h.mono fun _ e => by rw [e])⟩
  | ext => exact ⟨_, hq, WP.ofIn (h.mono fun _ e => by rw [e])⟩
  | nor T2 D2 H2 =>
    obtain ⟨j, hj, hI2⟩ := hq
    obtain ⟨o2, hq2, h2⟩ := WD.inLoop I hstep j T2 D2 H2 hI2
    exact ⟨o2, hq2, WP.ofIn (h.mono fun _ e => by rw [e]; exact h2)⟩
theorem WD.region {id : Nat} {ops : Array Oper} (h : WDO P b n ops ops.toList T D H Q) : WD P b n [.code (.region id ops false)] T D H Q := by
  obtain ⟨o, hq, h⟩ := h
  exact ⟨o, hq, WP.region h⟩
theorem WDO.nil {ops : Array Oper} (h : Q (.nor T D H)) : WDO P b n ops [] T D H Q := ⟨_, h, WPO.nil rfl⟩
theorem WDO.looks (hE : TyOk P E) (hX : ExtOk P E) (j : Nat) {ops : Array Oper} {r : List Oper} {ls : List Lk} (hk : lksOf E n.n ops.toList (r.take j) = some ls)
    (ho : oc (runLk ls T H) False fun T2 => WDO P b n ops (r.drop j) T2 D H Q) : WDO P b n ops r T D H Q := by
  cases h : runLk ls T H with
  | none => rw [h] at ho; exact ho.elim
  | some T2 =>
    rw [h] at ho
    obtain ⟨o, hq, h2⟩ := ho
    exact ⟨o, hq, WPO.looks hE hX j hk h h2⟩
def rec0 : Rec := { call := fun _ _ _ => none, dcall := fun _ _ _ => none, round := fun _ _ _ => none }
theorem WDO.heavy (hE : TyOk P E) (hX : ExtOk P E) {ops : Array Oper} {o : Oper} {r : List Oper} {k : HvK} (hk : heavyK E o.op = some k) (hg : o.guard = none) (hd : dstOk n.n o.dst = true)
    (ho : ∃ v H2, k.f rec0 T H = some (v, H2) ∧ WDO P b n ops r (putA T o.dst v) D H2 Q) : WDO P b n ops (o :: r) T D H Q := by
  obtain ⟨v, H2, h1, o, hq, h2⟩ := ho
  exact ⟨o, hq, WPO.heavy hE hX hk hg hd h1 h2⟩
theorem WDO.fresh (hE : TyOk P E) {ops : Array Oper} {o : Oper} {r : List Oper} {k : FrK} (hk : freshK E o.op = some k) (hg : o.guard = none) (hd : dstOk n.n o.dst = true)
    (ho : oc (k.f T H.next) False fun p => WDO P b n ops r (putA T o.dst p.1) D (H.new p.2) Q) : WDO P b n ops (o :: r) T D H Q := by
  cases h : k.f T H.next with
  | none => rw [h] at ho; exact ho.elim
  | some p =>
    rw [h] at ho
    obtain ⟨o, hq, h2⟩ := ho
    exact ⟨o, hq, WPO.fresh hE hk hg hd h h2⟩
theorem WDO.callF {ops : Array Oper} {o : Oper} {r : List Oper} {c : Call} {g : Nat} {l : AV} {Q1 : AV → AH → Prop} (hop : o.op = .call c) (hf : c.callee = .value (.func g)) (hg : o.guard = none) (hd : dstOk n.n o.dst = true)
    (hl : (opnds c.args.toList).f T = some l) (hc : DC P .normal g l H Q1) (h : ∀ v H2, Q1 v H2 → WDO P b n ops r (putA T o.dst v) D H2 Q) : WDO P b n ops (o :: r) T D H Q := by
  obtain ⟨v, H2, hq, hc⟩ := hc
  obtain ⟨o, h1, h2⟩ := h v H2 hq
  exact ⟨o, h1, WPO.callF hop hf hg hd hl hc fun v' H' e => by obtain ⟨rfl, rfl⟩ := e; exact h2⟩
theorem DC.of_wd (hE : TyOk P E) {f : FuncId} {fn : Func} {c : Code} {re : ReK} {kind : CallKind} {args : AV} {Q : AV → AH → Prop} (hfn : P.funcs[f]? = some fn) (hname : (fn.name == "runtime.NumGoroutine") = false) (hc : fn.body = some c)
    (hres : resultsK E fn.results.toList = some re) (hlen0 : Nat.ble (AV.len args) fn.ntmps = true)
    (h : WD P { (default : Frame) with fn := f, kind, roundOf := none } ⟨fn.ntmps, none, none⟩ [.code c] (argsT args 0 .e) [] H (OutP P re Q)) : DC P kind f args H Q := by
  obtain ⟨o, hq, h⟩ := h
  have go : ∀ T D H1, OutP P re Q (.nor T D H1) → ∃ v H2, Q v H2 ∧ OutP P re (fun v' H' => v' = v ∧ H' = H2) (.nor T D H1) := by
    rintro T D H1 ⟨R, H3, l, h1, h2, h3, h4⟩
    exact ⟨_, _, h4, R, H3, l, h1, h2, h3, rfl, rfl⟩
  cases o with
  | bad => exact hq.elim
  | ext => exact hq.elim
  | nor T D H1 =>
    obtain ⟨v, H2, g1, g2⟩ := go T D H1 hq
    exact ⟨v, H2, g1, AC.of_wp hE hfn hname hc hres hlen0 (h.mono fun _ e => by rw [e]; exact g2)⟩
  | ret T D H1 =>
    obtain ⟨v, H2, g1, g2⟩ := go T D H1 hq
    exact ⟨v, H2, g1, AC.of_wp hE hfn hname hc hres hlen0 (h.mono fun _ e => by rw [e]; exact g2)⟩
end
end
end Go.Xq
namespace Go.Xq
noncomputable section
structure DI where
  ts : List Nat
  act : Kd
  dst : Option Nat
  g : Option (Nat × Bool)
  lo : Nat
  cnt : Nat
  pu : Bool
  hv : Bool
def diOf (x : RO) : DI := ⟨looksA x, x.sp.act, x.sp.dst, x.sp.g, x.lo, Nat.add (Nat.sub x.hi x.lo) 1, pureK x.o.op, x.heavy⟩
def disOf (E : Env) (n : Nat) (ops : List Oper) : Option (List DI) := ob (analyse E n ops) fun a => some (a.ord.map diOf)
def atAll (p : AH → Prop) : Nat → Nat → List AH → Prop
  | 0, 0, _ => True
  | 0, _ + 1, [] => False
  | 0, c + 1, h :: r => p h ∧ atAll p 0 c r
  | _ + 1, _, [] => False
  | lo + 1, c, _ :: r => atAll p lo c r
def plainB : AObj → Prop
  | .bys .. | .cs .. => True
  | _ => False
def diAct (R : Rec) (x : DI) (T : Tr AV) (H : AH) (hs : List AH) (chk : List AH → Prop) (rest : Tr AV → AH → List AH → (List AH → Prop) → Prop) : Kd → Prop
  | .look k => oc (k.f (resT x.ts T) H) False fun v => rest (putA T x.dst v) H hs (bt x.pu chk (fun l => chk l ∧ atAll (fun h => k.f (resT x.ts T) h = some v) x.lo x.cnt l))
  | .heavy k => ∃ v H2, k.f R (resT x.ts T) H = some (v, H2) ∧ H.next ≤ H2.next ∧ rest (putA T x.dst v) H2 (H :: hs) chk
  | .fresh k => oc (k.f (resT x.ts T) H.next) False fun p => rest (putA T x.dst p.1) (H.new p.2) hs (fun l => chk l ∧ plainB p.2 ∧ atAll (fun h => h.get H.next = some p.2) x.lo x.cnt l)
  | _ => False
def DiRun (R : Rec) (K : Tr AV → AH → Prop) : List DI → Tr AV → AH → List AH → (List AH → Prop) → Prop
  | [], T, H, hs, chk => chk ((H :: hs).reverse) ∧ K T H
  | x :: r, T, H, hs, chk => oc (wantA x.g T) False fun w => bt w (diAct R x T H hs chk (fun T H hs chk => DiRun R K r T H hs chk) x.act)
      (DiRun R K r (putA T x.dst undefA) H (bt x.hv (H :: hs) hs) chk)
theorem Tr.beq_refl {α : Type} {f : α → α → Bool} (hf : ∀ a, f a a = true) : ∀ t : Tr α, Tr.beq f t t = true
  | .e => rfl
  | .n v a b c d => by
    simp only [Tr.beq, Tr.beq_refl hf a, Tr.beq_refl hf b, Tr.beq_refl hf c, Tr.beq_refl hf d, Bool.and_self, Bool.and_true]
    cases v with
    | none => rfl
    | some v => exact hf v
theorem bEq_refl (b : Bool) : bEq b b = true := by cases b <;> rfl
theorem objBeq_refl {o : AObj} (h : plainB o) : objBeq o o = true := by
  cases o with
  | bys e s op n => simp [objBeq, bEq_refl]
  | cs e a s op z t => simp [objBeq, bEq_refl, AV.beq_refl, Tr.beq_refl AV.beq_refl]
  | _ => exact h.elim
theorem atAll_same {f : AH → Bool} {p : AH → Prop} (hp : ∀ h, p h → f h = true) : ∀ {lo c : Nat} {l : List AH}, atAll p lo c l → sameAt f lo c l = true
  | 0, 0, _, _ => by simp [sameAt]
  | 0, _ + 1, [], h => h.elim
  | 0, c + 1, x :: r, h => by simp only [sameAt, hp x h.1, atAll_same hp h.2, Bool.and_self]
  | _ + 1, _, [], h => h.elim
  | lo + 1, c, _ :: r, h => by simp only [sameAt]; exact atAll_same hp h
theorem diRun_ok {R : Rec} {K : Tr AV → AH → Prop} : ∀ {ord : List RO}, (∀ x ∈ ord, x.heavy = isHv x.sp.act) → ∀ {s : DS} {chk : List AH → Prop}, (∀ l, chk l → checkA l s.dn = true) → DiRun R K (ord.map diOf) s.T s.H s.hs chk →
    ∃ s', (drawsK ord).f R s = some s' ∧ checkA ((s'.H :: s'.hs).reverse) s'.dn = true ∧ K s'.T s'.H
  | [], _, s, chk, hc, h => ⟨s, rfl, hc _ h.1, h.2⟩
  | x :: r, hhv, s, chk, hc, h => by
    have hhv' : ∀ y ∈ r, y.heavy = isHv y.sp.act := fun y hy => hhv y (List.mem_cons_of_mem _ hy)
    have hx := hhv x (by simp)
    simp only [List.map_cons, DiRun] at h
    show ∃ s', thenD x (drawsK r) R s = some s' ∧ _
    cases hw : wantA x.sp.g s.T with
    | none => rw [show (diOf x).g = x.sp.g from rfl, hw] at h; exact h.elim
    | some w =>
      rw [show (diOf x).g = x.sp.g from rfl, hw, oc_some] at h
      cases w with
      | false =>
        rw [bt_false] at h
        simp only [thenD, draw1, hw, ob_some', bt_false]
        exact diRun_ok hhv' (s := { T := putA s.T x.sp.dst undefA, H := s.H, hs := bt x.heavy (s.H :: s.hs) s.hs, dn := { x, T := .e, want := false, v := undefA, blk := none, hp := bt x.heavy (some (s.H, s.H)) none } :: s.dn })
          (fun l hl => by simp only [checkA, check1, hc l hl, Bool.and_self]) h
      | true =>
        rw [bt_true] at h
        simp only [thenD, draw1, hw, ob_some', bt_true]
        rw [show (diOf x).act = x.sp.act from rfl] at h
        cases hact : x.sp.act with
        | look k =>
          rw [hact] at h
          simp only [diAct] at h
          cases hk : k.f (resT (looksA x) s.T) s.H with
          | none => rw [show (diOf x).ts = looksA x from rfl, hk] at h; exact h.elim
          | some v =>
            rw [show (diOf x).ts = looksA x from rfl, hk, oc_some] at h
            simp only [drawAct, hact, hk, ob_some']
            refine diRun_ok hhv' (s := { T := putA s.T x.sp.dst v, H := s.H, hs := s.hs, dn := { x, T := resT (looksA x) s.T, want := true, v := v, blk := none, hp := none } :: s.dn }) (fun l hl => ?_) h
            simp only [diOf] at hl
            cases hp : pureK x.o.op with
            | true =>
              rw [hp, bt_true] at hl
              simp only [checkA, check1, hact, hp, hc l hl, Bool.and_self]
            | false =>
              rw [hp, bt_false] at hl
              simp only [checkA, check1, hact, hp, hc l hl.1, Bool.and_true]
              exact atAll_same (fun h' e => by simp only [looksSame, e, oc_some, AV.beq_refl]) hl.2
        | fresh k =>
          rw [hact] at h
          simp only [diAct] at h
          cases hk : k.f (resT (looksA x) s.T) s.H.next with
          | none => rw [show (diOf x).ts = looksA x from rfl, hk] at h; exact h.elim
          | some p =>
            rw [show (diOf x).ts = looksA x from rfl, hk, oc_some] at h
            simp only [drawAct, hact, hk, ob_some']
            refine diRun_ok hhv' (s := { T := putA s.T x.sp.dst p.1, H := s.H.new p.2, hs := s.hs, dn := { x, T := resT (looksA x) s.T, want := true, v := p.1, blk := some (s.H.next, p.2), hp := none } :: s.dn }) (fun l hl => ?_) h
            simp only [checkA, check1, hact, hc l hl.1, Bool.and_true]
            exact atAll_same (fun h' e => by simp only [holdsBlk, e, oc_some, objBeq_refl hl.2.1]) hl.2.2
        | heavy k =>
          rw [hact] at h
          obtain ⟨v, H2, h1, h2, h3⟩ := h
          rw [show (diOf x).ts = looksA x from rfl] at h1
          simp only [drawAct, hact, h1, ob_some', ble_true h2, bt_true]
          exact diRun_ok hhv' (s := { T := putA s.T x.sp.dst v, H := H2, hs := s.H :: s.hs, dn := { x, T := resT (looksA x) s.T, want := true, v := v, blk := none, hp := some (s.H, H2) } :: s.dn })
            (fun l hl => by simp only [checkA, check1, hact, hc l hl, Bool.and_self]) h3
        | dfr f l => rw [hact] at h; exact h.elim
        | rcv => rw [hact] at h; exact h.elim
def specR (P : Program) (S : Nat → AV → AH → AV → AH → Prop) : Rec :=
  { call := fun g l H => open Classical in if h : DC P .normal g l H (S g l H) then some (h.choose, h.choose_spec.choose) else none, dcall := fun _ _ _ => none, round := fun _ _ _ => none }
theorem specR_ok (P : Program) (S : Nat → AV → AH → AV → AH → Prop) : RecOk P (specR P S) := by
  refine ⟨fun f args H v H2 h => ?_, fun f args H v H2 h => (by cases h), fun f args H v H2 h => (by cases h)⟩
  simp only [specR] at h
  split at h
  · rename_i hd
    simp only [Option.some.injEq, Prod.mk.injEq] at h
    obtain ⟨h1, h2⟩ := h
    have := hd.choose_spec.choose_spec.2
    subst h1 h2
    refine ⟨this.1, fun m w vs hr hl => (this.2 m w vs hr hl).mono fun v' w' hp => ?_⟩
    obtain ⟨_, _, ⟨rfl, rfl⟩, hp⟩ := hp
    exact hp
  · cases h
theorem specR_call {P : Program} {S : Nat → AV → AH → AV → AH → Prop} {g : Nat} {l : AV} {H : AH} (h : DC P .normal g l H (S g l H)) : ∃ v H2, (specR P S).call g l H = some (v, H2) ∧ S g l H v H2 := by
  refine ⟨h.choose, h.choose_spec.choose, ?_, h.choose_spec.choose_spec.1⟩
  simp only [specR]
  rw [dif_pos h]
section
variable {P : Program} {E : Env} {b : Frame} {n : Cx} {T : Tr AV} {D : List ADf} {H : AH} {Q : Out → Prop}
theorem analyse_heavy {n : Nat} {ops : List Oper} {a : RA} (h : analyse E n ops = some a) : ∀ x ∈ a.ord, x.heavy = isHv x.sp.act := by
  simp only [analyse, ob_some] at h
  obtain ⟨l, hros, h⟩ := h
  split at h
  rotate_left
  · cases h
  simp only [Option.some.injEq] at h
  subst h
  intro x hx
  obtain ⟨q, _, _, _, hh, _⟩ := ros_spec hros x (mem_orderOf hx)
  exact hh
theorem WD.drawn (hE : TyOk P E) (hX : ExtOk P E) (hm : P.follows .mixedOrders = true) {id : Nat} {ops : Array Oper} {ls : List DI} (hk : disOf E n.n ops.toList = some ls) {R : Rec} (hR : RecOk P R)
    (h : DiRun R (fun T2 H2 => Q (.nor T2 D H2)) ls T H [] (fun _ => True)) : WD P b n [.code (.region id ops true)] T D H Q := by
  simp only [disOf, ob_some, Option.some.injEq] at hk
  obtain ⟨a, ha, rfl⟩ := hk
  have hk : drawK E n.n ops.toList = some ⟨drawRun (drawsK a.ord)⟩ := by simp only [drawK, ha, ob_some']
  obtain ⟨s', g1, g2, g3⟩ := diRun_ok (analyse_heavy ha) (s := { T := T, H := H, hs := [], dn := [] }) (fun l _ => by simp [checkA]) h
  have e : drawRun (drawsK a.ord) R T D H = .nor s'.T D s'.H := by
    simp only [drawRun, g1, oc_some, g2, bt_true]
  refine ⟨.nor s'.T D s'.H, g3, WP.of_rk (draw_ok hE hX hm hk) hR (by show drawRun _ _ _ _ _ ≠ _; rw [e]; simp) ?_⟩
  show drawRun _ _ _ _ _ = _
  exact e
end
end
end Go.Xq
