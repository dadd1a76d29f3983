/- A part of the proof of this seat's statement. Conditions: in each theorem. -/
import Derived.Test.YtnodjhgmghkikaaGreatW21
namespace Go.Xq
theorem nvo_mkD (e n : Nat) : NVo (mkD e n) := ⟨rfl, fun _ _ h => by cases h⟩
theorem dead_mkD (e n : Nat) : Dead (mkD e n) := ⟨e, n, rfl⟩
theorem setB_get (w : World) (k : Nat) (o : Obj) (i : Nat) : (setB w k o).heap[i]? = if i = k then (if k < w.heap.size then some o else Option.none) else w.heap[i]? := by
  show (w.heap.setIfInBounds k o)[i]? = _
  rw [Array.getElem?_setIfInBounds]
  by_cases h : k = i
  · subst h; simp
  · rw [if_neg h, if_neg (Ne.symm h)]
theorem setB_ne {w : World} {k i : Nat} {o : Obj} (h : i ≠ k) : (setB w k o).heap[i]? = w.heap[i]? := by rw [setB_get, if_neg h]
theorem setB_same {w : World} {k : Nat} {o x : Obj} (h : w.heap[k]? = some x) : (setB w k o).heap[k]? = some o := by
  rw [setB_get, if_pos rfl, if_pos (Array.getElem?_eq_some_iff.1 h).1]
theorem setB_size (w : World) (k : Nat) (o : Obj) : (setB w k o).heap.size = w.heap.size := by simp [setB]
theorem setB_live {w : World} {k i : Nat} {d o : Obj} (hd : Dead d) (h : (setB w k d).heap[i]? = some o) (ho : ¬ Dead o) : i ≠ k ∧ w.heap[i]? = some o := by
  rw [setB_get] at h
  split at h
  · split at h
    · cases h; exact absurd hd ho
    · cases h
  · rename_i hne
    exact ⟨hne, h⟩
theorem nv_setB {w : World} {k : Nat} {o : Obj} (h : NV w) (ho : NVo o) : NV (setB w k o) := by
  intro i y hy
  rw [setB_get] at hy
  split at hy
  · split at hy
    · cases hy; exact ho
    · cases hy
  · exact h i y hy
theorem restr_setB {v W : World} {k : Nat} {d : Obj} (h : Restr v W) (hd : Dead d) : Restr (setB v k d) W :=
  restr_of h.tape h.drawn h.os h.output (by rw [setB_size]; exact h.size) (nv_setB h.nv (by obtain ⟨e, n, rfl⟩ := hd; exact nvo_mkD e n)) fun i o hi ho => h.rat (setB_live hd hi ho).2 ho
theorem child_get (sp : Gp) (j c : Nat) (w : World) (k : Nat) (o : Obj) (h : (childW sp j c w).heap[k]? = some o) : (∃ y, w.heap[k]? = some y ∧ (k = c ∨ (sp.Y k ∧ Shr y)) ∧ y = o) ∨ Dead o := by
  classical
  have h : (w.heap.mapIdx fun k o => if k = sp.Wg then mkD 4 c else if k = sp.out then mkD 3 j else if k = c ∨ (sp.Y k ∧ Shr o) then o else deadO)[k]? = some o := h
  rw [Array.getElem?_mapIdx] at h
  obtain ⟨y, hy, he⟩ := Option.map_eq_some_iff.1 h
  by_cases h1 : k = sp.Wg
  · rw [if_pos h1] at he; exact .inr (he ▸ dead_mkD _ _)
  · rw [if_neg h1] at he
    by_cases h2 : k = sp.out
    · rw [if_pos h2] at he; exact .inr (he ▸ dead_mkD _ _)
    · rw [if_neg h2] at he
      by_cases h3 : k = c ∨ (sp.Y k ∧ Shr y)
      · rw [if_pos h3] at he; exact .inl ⟨y, hy, h3, he⟩
      · rw [if_neg h3] at he; exact .inr (he ▸ dead_deadO)
theorem child_wg (sp : Gp) (j c : Nat) {w : World} (h : sp.Wg < w.heap.size) : (childW sp j c w).heap[sp.Wg]? = some (mkD 4 c) := by
  classical
  show (w.heap.mapIdx _)[sp.Wg]? = _
  rw [Array.getElem?_mapIdx, Array.getElem?_eq_getElem h]
  simp
theorem child_out (sp : Gp) (j c : Nat) {w : World} (hne : sp.Wg ≠ sp.out) (h : sp.out < w.heap.size) : (childW sp j c w).heap[sp.out]? = some (mkD 3 j) := by
  classical
  show (w.heap.mapIdx _)[sp.out]? = _
  rw [Array.getElem?_mapIdx, Array.getElem?_eq_getElem h]
  simp [Ne.symm hne]
theorem child_size (sp : Gp) (j c : Nat) (w : World) : (childW sp j c w).heap.size = w.heap.size := by
  show (w.heap.mapIdx _).size = _
  simp
theorem strip_get (sp : Gp) (c : Nat) (w : World) (k : Nat) (o : Obj) (h : (stripW sp c w).heap[k]? = some o) : w.heap[k]? = some o ∧ (k = c ∨ Dead o ∨ (sp.Y k ∧ Shr o)) ∨ o = deadO := by
  classical
  have h : (w.heap.mapIdx fun k o => if k = c ∨ Dead o ∨ (sp.Y k ∧ Shr o) then o else deadO)[k]? = some o := h
  rw [Array.getElem?_mapIdx] at h
  obtain ⟨y, hy, he⟩ := Option.map_eq_some_iff.1 h
  by_cases h3 : k = c ∨ Dead y ∨ (sp.Y k ∧ Shr y)
  · rw [if_pos h3] at he; subst he; exact .inl ⟨hy, h3⟩
  · rw [if_neg h3] at he; exact .inr he.symm
theorem strip_keep (sp : Gp) (c : Nat) {w : World} {k : Nat} {o : Obj} (h : w.heap[k]? = some o) (hd : Dead o) : (stripW sp c w).heap[k]? = some o := by
  classical
  show (w.heap.mapIdx _)[k]? = _
  rw [Array.getElem?_mapIdx, h]
  simp [hd]
theorem strip_size (sp : Gp) (c : Nat) (w : World) : (stripW sp c w).heap.size = w.heap.size := by
  show (w.heap.mapIdx _).size = _
  simp
theorem bare_nd {c : Array Value} {e : TypeId} : ¬ Dead (.cells c e (0, 0)) ∧ ¬ Shr (.cells c e (0, 0)) := by
  refine ⟨?_, ?_⟩
  · rintro ⟨e', n, h⟩; injection h with _ _ h; simp at h
  · rintro ⟨c', e', h⟩; injection h with _ _ h; simp at h
section
variable {sp : Gp} {Wh : His} {W W' : World} {ac : Option Nat → Prop} {V : Option Nat → World} {O : Nat → Hd} {dp : Nat → Prop} {u : Nat → World} {c : Nat → Nat}
theorem Wst.remark (h : Wst sp Wh W ac V O dp u c) (e n : Nat) : Wst sp Wh W ac (fun b => if b = Option.none then setB (V Option.none) sp.Wg (mkD e n) else V b) O dp u c := by
  have main0 : ∀ (k : Nat) (o : Obj), (V Option.none).heap[k]? = some o → O k = .shr → (setB (V Option.none) sp.Wg (mkD e n)).heap[k]? = some o := fun k o hk hO => by
    rw [setB_ne (fun e => by rw [e, h.wg] at hO; cases hO)]; exact hk
  refine { h with r := fun b hb => ?_, n := fun b hb k o hk hd => ?_, s := fun b hb k o hk hd hO => ?_, ud := fun m hm k o hk hd => ?_, st0 := fun k o hk hd h1 h2 => let ⟨h3, h4⟩ := h.st0 k o hk hd h1 h2; ⟨h3, by rw [if_pos rfl, setB_ne h1]; exact h4⟩ }
  · by_cases eb : b = Option.none
    · rw [if_pos eb]; exact restr_setB (h.r _ h.main) (dead_mkD _ _)
    · rw [if_neg eb]; exact h.r b hb
  · by_cases eb : b = Option.none
    · rw [if_pos eb] at hk; subst eb; exact h.n _ hb k o (setB_live (dead_mkD _ _) hk hd).2 hd
    · rw [if_neg eb] at hk; exact h.n b hb k o hk hd
  · rw [if_pos rfl]
    by_cases eb : b = Option.none
    · rw [if_pos eb] at hk; exact hk
    · rw [if_neg eb] at hk; exact main0 k o (h.s b hb k o hk hd hO) hO
  · rw [if_pos rfl]
    rcases h.ud m hm k o hk hd with h1 | ⟨h1, h2, h3⟩
    · exact .inl h1
    · exact .inr ⟨h1, h2, main0 k o h3 h2⟩
theorem Wst.less (h : Wst sp Wh W ac V O dp u c) {ac' : Option Nat → Prop} (hac : ∀ b, ac' b → ac b) (hn : ac' Option.none) : Wst sp Wh W ac' V O dp u c :=
  { h with main := hn, r := fun a ha => h.r a (hac a ha), n := fun a ha => h.n a (hac a ha), s := fun a ha => h.s a (hac a ha) }
theorem Wst.spawn (h : Wst sp Wh W ac V O dp u c) {j cb : Nat} {val : Value} {e : TypeId} {m : Obj} (hm : Dead m) (hcb : (V Option.none).heap[cb]? = some (.cells #[val] e (0, 0))) (hag : ∀ k, O k ≠ .ag (some j)) {ac' : Option Nat → Prop} (hac : ∀ b, ac' b → ac b ∧ b ≠ some j ∨ b = some j) (hn : ac' Option.none) {c' : Nat → Nat} (hc : ∀ b, b ≠ j → c' b = c b) (hcj : c' j = cb) :
    Wst sp Wh W ac' (fun b => if b = Option.none then setB (setB (V Option.none) cb deadO) sp.Wg m else if b = some j then childW sp j cb (V Option.none) else V b) (fun k => if k = cb then .ag (some j) else O k) dp u c' := by
  have hO : O cb = .ag Option.none := by
    rcases h.n _ h.main cb _ hcb bare_nd.1 with h1 | ⟨h1, _⟩
    · exact h1
    · exact absurd h1 bare_nd.2
  have r0 := h.r _ h.main
  have old : ∀ {k : Nat} {A : Hd}, O k = A → A ≠ .ag Option.none → (if k = cb then Hd.ag (some j) else O k) = A := fun hk hA => by
    rw [if_neg (fun e => by subst e; rw [hO] at hk; exact hA hk.symm)]; exact hk
  have back : ∀ {k : Nat} {A : Hd}, (if k = cb then Hd.ag (some j) else O k) = A → A ≠ .ag (some j) → O k = A := fun hk hA => by
    split at hk
    · exact absurd hk.symm hA
    · exact hk
  have main0 : ∀ (k : Nat) (o : Obj), (V Option.none).heap[k]? = some o → O k = .shr → (setB (setB (V Option.none) cb deadO) sp.Wg m).heap[k]? = some o := fun k o hk hO' => by
    rw [setB_ne (fun e => by rw [e, h.wg] at hO'; cases hO'), setB_ne (fun e => by rw [e, hO] at hO'; cases hO')]; exact hk
  have live0 : ∀ {k : Nat} {o : Obj}, (setB (setB (V Option.none) cb deadO) sp.Wg m).heap[k]? = some o → ¬ Dead o → k ≠ cb ∧ (V Option.none).heap[k]? = some o := fun hk hd => by
    obtain ⟨_, h2⟩ := setB_live hm hk hd
    exact setB_live dead_deadO h2 hd
  have liveC : ∀ {k : Nat} {o : Obj}, (childW sp j cb (V Option.none)).heap[k]? = some o → ¬ Dead o → (V Option.none).heap[k]? = some o ∧ (k = cb ∨ (sp.Y k ∧ Shr o)) := fun hk hd => by
    rcases child_get _ _ _ _ _ _ hk with ⟨y, h1, h2, h3⟩ | h1
    · subst h3; exact ⟨h1, h2⟩
    · exact absurd h1 hd
  refine ⟨hn, fun b hb => ?_, fun b hb k o hk hd => ?_, fun b hb k o hk hd hO' => ?_, fun m' hm' k o hk hd => ?_, h.uz, fun k hk => old (h.bnd k hk) (by simp), fun k i hk => ?_, old h.wg (by simp), old h.out (by simp), h.wgl, h.outl, fun k hk => h.shW k (hk.imp (fun hk => back hk (by simp)) (fun hk => back hk (by simp))), fun k hk => old (h.y k hk) (by simp), h.h0l, h.tp, h.wos, h.wop, h.sz, fun k o hk hd h1 h2 => ?_⟩
  · by_cases e1 : b = Option.none
    · rw [if_pos e1]; exact restr_setB (restr_setB r0 dead_deadO) hm
    · rw [if_neg e1]
      by_cases e2 : b = some j
      · rw [if_pos e2]
        refine restr_of r0.tape r0.drawn r0.os r0.output (by rw [child_size]; exact r0.size) (fun k o hk => ?_) fun k o hk hd => r0.rat (liveC hk hd).1 hd
        rcases child_get _ _ _ _ _ _ hk with ⟨y, h1, _, h3⟩ | ⟨e', n', rfl⟩
        · subst h3; exact r0.nv k _ h1
        · exact nvo_mkD _ _
      · rw [if_neg e2]
        rcases hac b hb with ⟨h1, _⟩ | h1
        · exact h.r b h1
        · exact absurd h1 e2
  · by_cases e1 : b = Option.none
    · rw [if_pos e1] at hk
      obtain ⟨h1, h2⟩ := live0 hk hd
      rw [e1]
      show (if k = cb then Hd.ag (some j) else O k) = _ ∨ _
      rw [if_neg h1]
      exact h.n _ h.main k o h2 hd
    · rw [if_neg e1] at hk
      by_cases e2 : b = some j
      · rw [if_pos e2] at hk
        obtain ⟨h1, h2⟩ := liveC hk hd
        rcases h2 with h2 | ⟨h2, h3⟩
        · exact .inl (by rw [if_pos h2, e2])
        · exact .inr ⟨h3, old (h.y k h2) (by simp)⟩
      · rw [if_neg e2] at hk
        rcases hac b hb with ⟨h1, _⟩ | h1
        · rcases h.n b h1 k o hk hd with h3 | ⟨h3, h4⟩
          · exact .inl (old h3 (fun e => e1 (by cases e; rfl)))
          · exact .inr ⟨h3, old h4 (by simp)⟩
        · exact absurd h1 e2
  · have hO2 := back hO' (by simp)
    rw [if_pos rfl]
    by_cases e1 : b = Option.none
    · rw [if_pos e1] at hk; exact hk
    · rw [if_neg e1] at hk
      by_cases e2 : b = some j
      · rw [if_pos e2] at hk
        exact main0 k o (liveC hk hd).1 hO2
      · rw [if_neg e2] at hk
        rcases hac b hb with ⟨h1, _⟩ | h1
        · exact main0 k o (h.s b h1 k o hk hd hO2) hO2
        · exact absurd h1 e2
  · rw [if_pos rfl]
    rcases h.ud m' hm' k o hk hd with ⟨h1, h2⟩ | ⟨h1, h2, h3⟩
    · exact .inl ⟨old h1 (by simp), h2⟩
    · exact .inr ⟨h1, old h2 (by simp), main0 k o h3 h2⟩
  · have hk : (if k = cb then Hd.ag (some j) else O k) = _ := hk
    split at hk
    · rename_i ek
      cases hk
      exact .inr (ek.trans hcj.symm)
    · have hij : i ≠ j := fun e => hag k (e ▸ hk)
      rw [hc i hij]
      exact h.big k i hk
  · obtain ⟨h3, h4⟩ := h.st0 k o hk hd h1 h2
    refine ⟨h3.imp (fun e => old e (by simp)) (fun e => old e (by simp)), ?_⟩
    rw [if_pos rfl, setB_ne h1, setB_ne (fun e => by rw [e, hO] at h3; rcases h3 with h3 | h3 <;> cases h3)]
    exact h4
open Classical in
theorem Wst.put (h : Wst sp Wh W ac V O dp u c) {i n : Nat} {d : Obj} (hi : ac (some i)) (hd0 : Dead d) {cc' : Obj} :
    Wst sp Wh (setB W sp.out cc') ac (fun b => if b = some i then setB (stripW sp (c i) (V (some i))) sp.out d else V b) (fun k => if O k = .ag (some i) ∧ k ≠ c i then .dep n else O k) (fun m => dp m ∨ m = n) (fun m => if m = n then setB (V (some i)) (c i) deadO else u m) c := by
  have ri := h.r _ hi
  have hOut : ∀ {k : Nat}, O k ≠ .none → (setB W sp.out cc').heap[k]? = W.heap[k]? := fun hk => setB_ne fun e => hk (by rw [e]; exact h.out)
  have old : ∀ {k : Nat} {A : Hd}, O k = A → A ≠ .ag (some i) → (if O k = .ag (some i) ∧ k ≠ c i then Hd.dep n else O k) = A := fun hk hA => by
    rw [if_neg (fun e => hA (by rw [← hk]; exact e.1))]; exact hk
  have back : ∀ {k : Nat} {A : Hd}, (if O k = .ag (some i) ∧ k ≠ c i then Hd.dep n else O k) = A → A ≠ .dep n → O k = A := fun hk hA => by
    split at hk
    · exact absurd hk.symm hA
    · exact hk
  have liveP : ∀ {k : Nat} {o : Obj}, (setB (stripW sp (c i) (V (some i))) sp.out d).heap[k]? = some o → ¬ Dead o → (V (some i)).heap[k]? = some o ∧ (k = c i ∨ (sp.Y k ∧ Shr o)) := fun hk hd => by
    obtain ⟨_, h2⟩ := setB_live hd0 hk hd
    rcases strip_get _ _ _ _ _ h2 with ⟨h3, h4 | h4 | h4⟩ | h3
    · exact ⟨h3, .inl h4⟩
    · exact absurd h4 hd
    · exact ⟨h3, .inr h4⟩
    · exact absurd (h3 ▸ dead_deadO) hd
  have hne0 : (Option.none : Option Nat) ≠ some i := by simp
  have rW : ∀ {v : World}, Restr v W → (∀ (k : Nat) (o : Obj), v.heap[k]? = some o → ¬ Dead o → O k ≠ .none) → Restr v (setB W sp.out cc') := fun hv hk =>
    restr_of hv.tape hv.drawn hv.os hv.output (by rw [setB_size]; exact hv.size) hv.nv fun k o h1 h2 => (hv.rat h1 h2).congr (hOut (hk k o h1 h2))
  have nOf : ∀ b, ac b → ∀ (k : Nat) (o : Obj), (V b).heap[k]? = some o → ¬ Dead o → O k ≠ .none := fun b hb k o hk hd => by
    rcases h.n b hb k o hk hd with h1 | ⟨_, h1⟩ <;> rw [h1] <;> simp
  refine ⟨h.main, fun b hb => ?_, fun b hb k o hk hd => ?_, fun b hb k o hk hd hO => ?_, fun m hm k o hk hd => ?_, fun m hm => ?_, fun k hk => ?_, fun k i' hk => ?_, old h.wg (by simp), old h.out (by simp), by rw [setB_size]; exact h.wgl, by rw [setB_size]; exact h.outl, fun k hk => ?_, fun k hk => old (h.y k hk) (by simp), by rw [setB_size]; exact h.h0l, h.tp, h.wos, h.wop, by rw [setB_size]; exact h.sz, fun k o hk hd h1 h2 => let ⟨h3, h4⟩ := h.st0 k o hk hd h1 h2; ⟨h3.imp (fun e => old e (by simp)) (fun e => old e (by simp)), by rw [if_neg hne0]; exact h4⟩⟩
  · by_cases e : b = some i
    · rw [if_pos e]
      refine restr_of ri.tape ri.drawn ri.os ri.output (by rw [setB_size, strip_size, setB_size]; exact ri.size) (nv_setB (fun k o hk => ?_) (by obtain ⟨e, n, rfl⟩ := hd0; exact nvo_mkD e n)) fun k o hk hd => ?_
      · rcases strip_get _ _ _ _ _ hk with ⟨h1, _⟩ | h1
        · exact ri.nv k o h1
        · rw [h1]; exact nvo_dead
      · obtain ⟨h1, _⟩ := liveP hk hd
        exact (ri.rat h1 hd).congr (hOut (nOf _ hi k o h1 hd))
    · rw [if_neg e]; exact rW (h.r b hb) (nOf b hb)
  · by_cases e : b = some i
    · rw [if_pos e] at hk
      obtain ⟨h1, h2⟩ := liveP hk hd
      subst e
      rcases h.n _ hi k o h1 hd with h3 | ⟨h3, h4⟩
      · rcases h2 with h2 | ⟨h2, _⟩
        · exact .inl (by show (if O k = .ag (some i) ∧ k ≠ c i then Hd.dep n else O k) = _; rw [if_neg (fun e => e.2 h2)]; exact h3)
        · rw [h.y k h2] at h3; cases h3
      · exact .inr ⟨h3, old h4 (by simp)⟩
    · rw [if_neg e] at hk
      rcases h.n b hb k o hk hd with h3 | ⟨h3, h4⟩
      · exact .inl (old h3 (fun e2 => e (by cases e2; rfl)))
      · exact .inr ⟨h3, old h4 (by simp)⟩
  · have hO2 := back hO (by simp)
    rw [if_neg hne0]
    by_cases e : b = some i
    · rw [if_pos e] at hk
      exact h.s _ hi k o (liveP hk hd).1 hd hO2
    · rw [if_neg e] at hk
      exact h.s b hb k o hk hd hO2
  · rw [if_neg hne0]
    by_cases e : m = n
    · have hk : (if m = n then setB (V (some i)) (c i) deadO else u m).heap[k]? = some o := hk
      rw [if_pos e] at hk
      obtain ⟨h1, h2⟩ := setB_live dead_deadO hk hd
      rcases h.n _ hi k o h2 hd with h3 | ⟨h3, h4⟩
      · refine .inl ⟨?_, (ri.rat h2 hd).congr (hOut (nOf _ hi k o h2 hd)), ri.nv k o h2, ?_⟩
        · show (if O k = .ag (some i) ∧ k ≠ c i then Hd.dep n else O k) = _
          rw [if_pos ⟨h3, h1⟩, e]
        · rcases h.big k i h3 with h5 | h5
          · exact h5
          · exact absurd h5 h1
      · exact .inr ⟨h3, old h4 (by simp), h.s _ hi k o h2 hd h4⟩
    · have hk : (if m = n then setB (V (some i)) (c i) deadO else u m).heap[k]? = some o := hk
      rw [if_neg e] at hk
      have hm' : dp m := hm.resolve_right e
      rcases h.ud m hm' k o hk hd with ⟨h1, h2, h3⟩ | ⟨h1, h2, h3⟩
      · exact .inl ⟨old h1 (by simp), h2.congr (hOut (by rw [h1]; simp)), h3⟩
      · exact .inr ⟨h1, old h2 (by simp), h3⟩
  · rw [setB_size]
    show (if m = n then setB (V (some i)) (c i) deadO else u m).heap.size ≤ _
    by_cases e : m = n
    · rw [if_pos e, setB_size, ri.size]; exact Nat.le_refl _
    · rw [if_neg e]; exact h.uz m (hm.resolve_right e)
  · rw [setB_size] at hk
    exact old (h.bnd k hk) (by simp)
  · exact h.big k i' (back hk (by simp))
  · have hO : O k = .shr ∨ O k = .old := hk.imp (fun hk => back hk (by simp)) (fun hk => back hk (by simp))
    rw [hOut (by rcases hO with e | e <;> rw [e] <;> simp)]
    exact h.shW k hO
end
end Go.Xq
namespace Go.Xq
open Go.Conc Go.ConcN Go.Conc.Lib Go.ConcR.Gen Go.ConcN.Gen
open Go.ConcR (KK wgBlock WgAt stA smA rd wr mk DC0)
section
variable {P : Program} {sp : Gp} {Φ : Frame → List Frame → World → Prop} {k0 : Nat} {SB : Nat → Prop} {Wh : His} {x : Cf}
theorem ph_mono (J j : Nat) {v v' : Nat} (h : v' ≤ v) (tag : MT) : tag.ph J j v' ≤ tag.ph J j v := by
  cases tag <;> simp only [MT.ph] <;> omega
theorem ph_retag (J j v : Nat) {tag tag' : MT} (h : tag' = tag ∨ (tag = .blk ∧ tag' = .w3)) : tag'.ph J j v = tag.ph J j v := by
  rcases h with rfl | ⟨rfl, rfl⟩ <;> rfl
theorem D_work {x : Cf} {i : Nat} {y : Wd} (b : Nat) : (⟨min ((upd x.xs i y) b).s 7, 0, ((upd x.xs i y) b).d⟩ : WD) = upd x.D i ⟨min y.s 7, 0, y.d⟩ b := by
  by_cases e : b = i
  · subst e; rw [upd_same, upd_same]
  · rw [upd_ne _ _ e, upd_ne _ _ e]; rfl
theorem work_mu {i : Nat} {g g' : Goroutine} {W' : World} {es : Array Event} {y : Wd} {V' : Option Nat → World} {O' : Nat → Hd} {dp' : Nat → Prop} {u' : Nat → World} {rel' : Nat → Option Nat} {tag' : MT} {r0' : Rk} {st' sm' : Int} (hi : i < x.j) (hj : x.j ≤ sp.J) (htag : tag' = x.tag ∨ (x.tag = .blk ∧ tag' = .w3))
    (h : (y.s < (x.xs i).s ∧ Vc x.j (upd x.D i ⟨min y.s 7, 0, y.d⟩) ≤ Vc x.j x.D) ∨ (y.s = (x.xs i).s ∧ Rk.lt y.r (x.xs i).r)) : MLt (k0 + sp.J) ((x.workTo P k0 i g g' W' es y V' O' dp' u' rel' tag' r0' st' sm').mu k0 sp) (x.mu k0 sp) := by
  have eD : (x.workTo P k0 i g g' W' es y V' O' dp' u' rel' tag' r0' st' sm').D = upd x.D i ⟨min y.s 7, 0, y.d⟩ := funext fun b => D_work b
  have es' := sumTo_upd x.xs y Wd.s hi
  have e1 : ((x.workTo P k0 i g g' W' es y V' O' dp' u' rel' tag' r0' st' sm').mu k0 sp).1 = x.tag.ph sp.J x.j (Vc x.j (upd x.D i ⟨min y.s 7, 0, y.d⟩)) + sumTo x.j (fun b => (upd x.xs i y b).s) := by
    show tag'.ph sp.J x.j (Vc x.j (Cf.D _)) + _ = _
    rw [eD, ph_retag _ _ _ htag]; rfl
  rcases h with ⟨h1, h2⟩ | ⟨h1, h2⟩
  · have h3 := ph_mono sp.J x.j h2 x.tag
    refine Prod.lex_def.2 (.inl ?_)
    rw [e1]
    show _ < x.tag.ph sp.J x.j (Vc x.j x.D) + sumTo x.j (fun b => (x.xs b).s)
    omega
  · have hv : Vc x.j (upd x.D i ⟨min y.s 7, 0, y.d⟩) = Vc x.j x.D := sumTo_congr fun b hb => by
      by_cases e : b = i
      · subst e; rw [upd_same]; simp only [cnt, Cf.D, h1]; rfl
      · rw [upd_ne _ _ e]
    refine Prod.lex_def.2 (.inr ⟨?_, Prod.lex_def.2 (.inl ⟨k0 + i, by omega, ?_, fun b hb => ?_⟩)⟩)
    · rw [e1, hv]
      show _ = x.tag.ph sp.J x.j (Vc x.j x.D) + sumTo x.j (fun b => (x.xs b).s)
      omega
    · show Rk.lt (if k0 + i < k0 then _ else if k0 + i < k0 + x.j then (upd x.xs i y (k0 + i - k0)).r else .z) (if k0 + i < k0 then _ else if k0 + i < k0 + x.j then (x.xs (k0 + i - k0)).r else .z)
      rw [if_neg (by omega), if_pos (by omega), if_neg (by omega), if_pos (by omega), show k0 + i - k0 = i by omega, upd_same]
      exact h2
    · show (if b < k0 then _ else if b < k0 + x.j then (upd x.xs i y (b - k0)).r else .z) = (if b < k0 then _ else if b < k0 + x.j then (x.xs (b - k0)).r else .z)
      by_cases e1 : b < k0
      · rw [if_pos e1, if_pos e1]; rfl
      · rw [if_neg e1, if_neg e1]
        by_cases e2 : b < k0 + x.j
        · rw [if_pos e2, if_pos e2, upd_ne _ _ (by omega)]
        · rw [if_neg e2, if_neg e2]
theorem run_work {i : Nat} (hk : k0 + i ≠ 0) {g g' : Goroutine} {W' : World} {es : Array Event} (hg : x.gs[k0 + i]? = some g) (hgo : stepG P false g x.W = .go g' W' es) (sl : Option (Nat × Nat)) :
    runT P (crowd x.gs x.W sl) (k0 + i) = (.next (crowd ((x.gs.map (Conc.woken P g g' W')).setIfInBounds (k0 + i) g') W' sl), MemOp.ofEvents (k0 + i) g.frame.fn g.frame.place es) :=
  runT_crowd_go hg (by rw [show (k0 + i == 0) = false by simpa using hk]; exact hgo)
theorem mode_work {i : Nat} {y : Wd} {tag : MT} {st sm : Int} (hs : y.s = (x.xs i).s) (h : Go.ConcN.Mode x.j x.D (tag.ctag sp.J x.j) st sm) : ∀ tag', (tag' = tag ∨ (tag = .blk ∧ tag' = .w3)) → Go.ConcN.Mode x.j (fun b => ⟨min ((upd x.xs i y) b).s 7, 0, ((upd x.xs i y) b).d⟩) (tag'.ctag sp.J x.j) st sm := by
  intro tag' htag
  have h' : Go.ConcN.Mode x.j x.D (tag'.ctag sp.J x.j) st sm := by
    rcases htag with rfl | ⟨rfl, rfl⟩
    · exact h
    · exact h.retag (.inr ⟨rfl, rfl⟩)
  refine h'.congr fun b _ => ?_
  by_cases e : b = i
  · subst e; rw [upd_same]; simp only [Cf.D, hs]
  · rw [upd_ne _ _ e]; rfl
theorem not_bkW (h : Bst P sp Φ k0 SB Wh x) {i : Nat} (hi : i < x.j) (hs : 2 ≤ (x.xs i).s) : x.tag ≠ .bkW := fun e => by
  have hm := h.mode
  rw [e] at hm
  have := (mode_fin (tag' := .ret) hm trivial trivial).2.2.2 i hi
  simp only [Cf.D] at this
  omega
theorem work_own (ok : GpOk P sp) (h : Bst P sp Φ k0 SB Wh x) {i : Nat} (hi : i < x.j) (hs8 : (x.xs i).s = 8) (hd0 : (x.xs i).d = 0) {fr : Frame} {cs : List Frame} {f : World → Frame × List Frame × World} {gr : World × Frame × List Frame × World → Rk} {n : Nat} (hg : x.gs[k0 + i]? = some (Conc.G fr cs)) (hr0 : (x.xs i).r = .s gr)
    (ho : (x.V (some i)).heap[sp.out]? = some (mkD 3 n)) (hn : n % sp.step = i) (hw : (x.V (some i)).heap[sp.Wg]? = some (mkD 4 (x.xs i).c))
    (hl : ∀ w1, Idle (x.V (some i)) w1 → Lifts P fr cs w1 (f w1).1 (f w1).2.1 (f w1).2.2)
    (hgx : ∀ w1, Idle (x.V (some i)) w1 → @GxR (workerD P sp) P (WEnd P sp) (gr (w1, f w1)) (f w1).1 (f w1).2.1 (f w1).2.2) : StepTo P sp Φ k0 SB Wh x (k0 + i) := by
  have hac : x.ac (some i) := ⟨hi, hs8⟩
  obtain ⟨W', es, hgo, ⟨hr, hs⟩, hb, hev⟩ := hl _ (Idle.refl _) false x.W (h.wst.r _ hac)
  have hW := h.wst.own hac hr hs hb
  have stand : ∀ k, k < x.W.heap.size → x.O k ≠ .ag (some i) → W'.heap[k]? = x.W.heap[k]? := fun k h1 h2 => h.wst.stands hac hb h1 h2
  have hwg : WgAt sp.L.tWg sp.Wg W' x.st x.sm := by
    show W'.heap[sp.Wg]? = _
    rw [stand _ h.wst.wgl (by rw [h.wst.wg]; simp)]
    exact h.wg
  let y : Wd := { x.xs i with r := gr (x.V (some i), f (x.V (some i))) }
  let V' : Option Nat → World := fun b => if b = some i then (f (x.V (some i))).2.2 else padW (x.V b) W'
  have hVi : V' (some i) = (f (x.V (some i))).2.2 := if_pos rfl
  have hVo : ∀ b, b ≠ some i → V' b = padW (x.V b) W' := fun b hb => if_neg hb
  have hWO : (fun b => (upd x.xs i y b).c) = fun b => (x.xs b).c := funext fun b => by
    by_cases e : b = i
    · subst e; rw [upd_same]
    · rw [upd_ne _ _ e]
  obtain ⟨cc, hc1, hc2⟩ := h.outW
  obtain ⟨tag', r0', htag, hB⟩ := h.workGo (y := y) (V' := V') (O' := newO x.O x.W.heap.size W'.heap.size (.ag (some i))) (dp' := x.dp) (u' := x.u) (rel' := x.rel) (st' := x.st) (sm' := x.sm) (es := es) (g' := Conc.G (f (x.V (some i))).1 (f (x.V (some i))).2.1) (W' := W') hi hg
    (fun tag' r0' => by
      rw [hWO]
      have e : (x.workTo P k0 i (Conc.G fr cs) (Conc.G (f (x.V (some i))).1 (f (x.V (some i))).2.1) W' es y V' (newO x.O x.W.heap.size W'.heap.size (.ag (some i))) x.dp x.u x.rel tag' r0' x.st x.sm).ac = x.ac := funext fun b => by
        cases b with
        | none => rfl
        | some b =>
          show (b < x.j ∧ (upd x.xs i y b).s = 8) = (b < x.j ∧ (x.xs b).s = 8)
          by_cases e : b = i
          · subst e; rw [upd_same]
          · rw [upd_ne _ _ e]
      rw [e]
      exact hW)
    (fun b hb => by rw [hVo _ (by simpa using hb)]; exact idle_pad _ _) (by rw [hVo _ (by simp)]; exact idle_pad _ _) hwg
    (by
      rw [hVi]
      exact .work _ _ n hs8 hd0 rfl (hgx _ (Idle.refl _)) (hs _ _ ho (.inl (dead_mkD _ _))) hn (hs _ _ hw (.inl (dead_mkD _ _))))
    (by rw [deaf_ev hev])
    (fun hc => by simp only [y, hs8] at hc; omega) (fun _ => h.relB i hi (by omega)) (fun _ _ => rfl)
    ⟨cc, by rw [stand _ h.wst.outl (by rw [h.wst.out]; simp)]; exact hc1, hc2⟩ h.dpl (fun _ _ => Iff.rfl)
    (fun _ m hm => by
      rw [hVi, hs _ _ ho (.inl (dead_mkD _ _))] at hm
      have := (mkD_inj (Option.some.inj hm)).2
      subst this
      exact h.dpw i hi hs8 n ho)
    (fun hc => by simp only [y, hs8] at hc; omega)
    (fun tag' ht _ => mode_work (y := y) rfl h.mode tag' ht)
    (tri_own ok.ne h.k0p h.wst h.tri (a := some i) hac (.inr ⟨i, hi, rfl⟩) (fun i' hi' => by cases hi'; exact h.relB i hi (by omega)) hb.size hev _ _)
    (fun e => absurd e (not_bkW h hi (by omega)))
    (fun k hk => by
      obtain ⟨o, ho', _⟩ := h.sbV k hk
      have hlt : k < x.W.heap.size := by rw [← (h.wst.r _ h.wst.main).size]; exact (Array.getElem?_eq_some_iff.1 ho').1
      rw [newO_old hlt]; exact h.sbO k hk)
    (fun k i' hk => by
      unfold newO at hk
      split at hk
      · cases hk; exact hi
      · exact h.agj k i' hk)
  exact ⟨_, _, run_work (h.k0i i) hg hgo, rfl, work_mu (y := y) hi h.jle htag (.inr ⟨rfl, by show Rk.lt (gr _) _; rw [hr0]; exact .mk gr _⟩), hB⟩
end
end Go.Xq
namespace Go.Xq
open Go.Conc Go.ConcN Go.Conc.Lib Go.ConcR.Gen Go.ConcN.Gen
open Go.ConcR (KK wgBlock WgAt stA smA rd wr mk DC0 bk_of_mute ofEvent_loc_mark)
section
variable {P : Program} {sp : Gp} {Φ : Frame → List Frame → World → Prop} {k0 : Nat} {SB : Nat → Prop} {Wh : His} {x : Cf}
theorem same_c {i : Nat} {y : Wd} (hc : y.c = (x.xs i).c) : (fun b => (upd x.xs i y b).c) = fun b => (x.xs b).c := funext fun b => by
  by_cases e : b = i
  · subst e; rw [upd_same]; exact hc
  · rw [upd_ne _ _ e]
theorem mod_next {m n s : Nat} (hs : 0 < s) (h : m % s = n % s) (h1 : n ≤ m) (h2 : m < n + s) : m = n := by
  have h3 := Nat.sub_mod_eq_zero_of_mod_eq h
  rw [Nat.mod_eq_of_lt (by omega)] at h3
  omega
theorem work_put (ok : GpOk P sp) (h : Bst P sp Φ k0 SB Wh x) {i : Nat} (hi : i < x.j) (hs8 : (x.xs i).s = 8) (hd0 : (x.xs i).d = 0) {fr fr' : Frame} {cs cs' : List Frame} {r' : Rk} {n : Nat} {xs : List Value} (hg : x.gs[k0 + i]? = some (Conc.G fr cs)) (hr0 : Rk.lt r' (x.xs i).r)
    (hn : n % sp.step = i) (hp : PutOk P sp n (x.xs i).c xs fr cs (x.V (some i)) fr' cs')
    (hgx : @GxR (workerD P sp) P (WEnd P sp) r' fr' cs' (setB (stripW sp (x.xs i).c (x.V (some i))) sp.out (mkD 3 (n + sp.step)))) : StepTo P sp Φ k0 SB Wh x (k0 + i) := by
  classical
  obtain ⟨ho, hw, hnN, hlen, hS, hput⟩ := hp
  have hac : x.ac (some i) := ⟨hi, hs8⟩
  obtain ⟨cc, hc1, hc2, hc3⟩ := h.outW
  obtain ⟨cc', es, hgo, hz, hin, hout, hev⟩ := hput false x.W cc hc1 hc2
  have hnd : ¬ x.dp n := fun hd => by have := (h.dpw i hi hs8 n ho n hnN hn).1 hd; omega
  have hW := h.wst.put (i := i) (n := n) (d := mkD 3 (n + sp.step)) (cc' := .cells cc' sp.oe (0, 0)) hac (dead_mkD _ _)
  let y : Wd := { x.xs i with r := r' }
  have hWg : (setB x.W sp.out (.cells cc' sp.oe (0, 0))).heap[sp.Wg]? = x.W.heap[sp.Wg]? := setB_ne ok.ne
  have hVi : (if (some i : Option Nat) = some i then setB (stripW sp (x.xs i).c (x.V (some i))) sp.out (mkD 3 (n + sp.step)) else x.V (some i)) = setB (stripW sp (x.xs i).c (x.V (some i))) sp.out (mkD 3 (n + sp.step)) := if_pos rfl
  have hol : sp.out < (x.V (some i)).heap.size := by rw [(h.wst.r _ hac).size]; exact h.wst.outl
  have hks : ∀ e ∈ es, ∃ b, b < sp.ks ∧ e = ⟨.cell ⟨sp.out, n * sp.ks + b, none⟩, true, false⟩ := hev
  have hdf : ∀ d, deafBehind d es = d := fun d => Conc.deafBehind_still (fun e he => by obtain ⟨b, _, rfl⟩ := hks e he; simp) d
  have hmark : (setB (stripW sp (x.xs i).c (x.V (some i))) sp.out (mkD 3 (n + sp.step))).heap[sp.out]? = some (mkD 3 (n + sp.step)) := setB_same (strip_keep sp _ ho (dead_mkD _ _))
  obtain ⟨tag', r0', htag, hB⟩ := h.workGo (y := y) (V' := fun b => if b = some i then setB (stripW sp (x.xs i).c (x.V (some i))) sp.out (mkD 3 (n + sp.step)) else x.V b) (O' := fun k => if x.O k = .ag (some i) ∧ k ≠ (x.xs i).c then .dep n else x.O k)
      (dp' := fun m => x.dp m ∨ m = n) (u' := fun m => if m = n then setB (x.V (some i)) (x.xs i).c deadO else x.u m) (rel' := x.rel) (st' := x.st) (sm' := x.sm) (es := es) (g' := Conc.G fr' cs') (W' := setB x.W sp.out (.cells cc' sp.oe (0, 0))) hi hg
    (fun tag' r0' => by
      rw [same_c (y := y) rfl]
      have e : (x.workTo P k0 i (Conc.G fr cs) (Conc.G fr' cs') (setB x.W sp.out (.cells cc' sp.oe (0, 0))) es y (fun b => if b = some i then setB (stripW sp (x.xs i).c (x.V (some i))) sp.out (mkD 3 (n + sp.step)) else x.V b) (fun k => if x.O k = .ag (some i) ∧ k ≠ (x.xs i).c then .dep n else x.O k) (fun m => x.dp m ∨ m = n) (fun m => if m = n then setB (x.V (some i)) (x.xs i).c deadO else x.u m) x.rel tag' r0' x.st x.sm).ac = x.ac := funext fun b => by
        cases b with
        | none => rfl
        | some b =>
          show (b < x.j ∧ (upd x.xs i y b).s = 8) = (b < x.j ∧ (x.xs b).s = 8)
          by_cases e : b = i
          · subst e; rw [upd_same]
          · rw [upd_ne _ _ e]
      rw [e]
      exact hW)
    (fun b hb => by rw [if_neg (by simpa using hb)]; exact Idle.refl _) (by rw [if_neg (by simp)]; exact Idle.refl _) (by show (setB _ _ _).heap[sp.Wg]? = _; rw [hWg]; exact h.wg)
    (by
      rw [hVi]
      exact .work _ _ (n + sp.step) hs8 hd0 rfl hgx hmark (by rw [Nat.add_mod_right]; exact hn) (by rw [setB_ne ok.ne]; exact strip_keep sp _ hw (dead_mkD _ _)))
    (by rw [hdf])
    (fun hc => by simp only [y, hs8] at hc; omega) (fun _ => h.relB i hi (by omega)) (fun _ _ => rfl)
    ⟨cc', setB_same hc1, hz.trans hc2, fun m hm => by
      by_cases e : m = n
      · show sp.S m (if m = n then _ else _) _
        rw [if_pos e]
        subst e
        have e2 : ((List.range sp.ks).map fun b => cc'.getD (m * sp.ks + b) undef) = xs := by
          apply List.ext_getElem?
          intro b
          by_cases hb : b < sp.ks
          · have h1 := hin b hb
            have h2 : b < xs.length := by omega
            rw [List.getElem?_map, List.getElem?_range hb, Option.map_some, Array.getD_eq_getD_getElem?, h1, List.getElem?_eq_getElem h2]
            rfl
          · rw [List.getElem?_eq_none (by simp; omega), List.getElem?_eq_none (by omega)]
        rw [e2]; exact hS
      · show sp.S m (if m = n then _ else _) _
        rw [if_neg e]
        have hm' : x.dp m := hm.resolve_right e
        have := hc3 m hm'
        have e2 : ((List.range sp.ks).map fun b => cc'.getD (m * sp.ks + b) undef) = ((List.range sp.ks).map fun b => cc.getD (m * sp.ks + b) undef) := by
          apply List.map_congr_left
          intro b hb
          have hb : b < sp.ks := List.mem_range.1 hb
          have : cc'[m * sp.ks + b]? = cc[m * sp.ks + b]? := by
            refine hout _ ?_
            rcases Nat.lt_or_gt_of_ne e with h1 | h1
            · have : (m + 1) * sp.ks ≤ n * sp.ks := Nat.mul_le_mul_right _ h1
              rw [Nat.add_mul] at this
              omega
            · have : (n + 1) * sp.ks ≤ m * sp.ks := Nat.mul_le_mul_right _ h1
              rw [Nat.add_mul] at this
              omega
          rw [Array.getD_eq_getD_getElem?, Array.getD_eq_getD_getElem?, this]
        rw [e2]; exact this⟩
    (fun m hm => by
      rcases hm with hm | rfl
      · exact h.dpl m hm
      · exact ⟨hnN, by omega⟩)
    (fun m hm => ⟨fun h => h.resolve_right fun e => hm (by rw [e]; exact hn), .inl⟩)
    (fun _ m hm b hbN hbi => by
      rw [hVi, hmark] at hm
      have := (mkD_inj (Option.some.inj hm)).2
      subst this
      rw [h.dpw i hi hs8 n ho b hbN hbi]
      constructor
      · rintro (h1 | h1)
        · have := ok.st; omega
        · have := ok.st; omega
      · intro h1
        by_cases h2 : b < n
        · exact .inl h2
        · exact .inr (mod_next ok.st (by omega) (by omega) h1))
    (fun hc => by simp only [y, hs8] at hc; omega)
    (fun tag' ht _ => mode_work (y := y) rfl h.mode tag' ht)
    (by
      rw [setB_size]
      refine h.tri.app (rl := false) (Nat.le_refl _) (.inr ⟨i, hi, rfl⟩) (fun i' r hg hr => ?_) (fun op hop => ?_) (fun op hop => ?_) (fun h => by cases h) (fun h => by cases h) (fun l o hl hno => ?_) (owL_fresh h.wst) (owL_wg ok.ne h.wst) owL_mem h.k0p
      · have : i' = i := by omega
        subst this
        rw [h.relB i' hi (by omega)] at hr; cases hr
      · obtain ⟨e, he, rfl⟩ := Conc.mem_ofEvents hop
        obtain ⟨b, hb, rfl⟩ := hks e he
        refine ⟨rfl, fun a => by simp [MemAct.ofEvent], fun z hz => .inr ⟨rfl, ?_, .inl ?_⟩⟩
        · simp only [MemAct.ofEvent, MemAct.touch?, Option.some.injEq] at hz
          subst hz
          rintro ⟨ad, e1, e2⟩
          cases e1
          exact ok.ne e2.symm
        · simp only [MemAct.ofEvent, MemAct.touch?, Option.some.injEq] at hz
          subst hz
          have e1 : (n * sp.ks + b) / sp.ks = n := by
            rw [Nat.mul_comm, Nat.mul_add_div (by omega), Nat.div_eq_of_lt hb, Nat.add_zero]
          rw [ow_out rfl, if_pos rfl]
          simp only [e1, hn]
          rw [if_pos hi]
      · obtain ⟨e, he, rfl⟩ := Conc.mem_ofEvents hop
        obtain ⟨b, hb, rfl⟩ := hks e he
        exact h.wst.outl
      · left
        have key : ∀ b, hdOw k0 (if x.O b = .ag (some i) ∧ b ≠ (x.xs i).c then .dep n else x.O b) = o → hdOw k0 (x.O b) = o := by
          intro b hb
          split at hb
          · exact absurd hb.symm hno
          · exact hb
        cases l with
        | cell ad =>
          by_cases h6 : ad.block = sp.out
          · rw [ow_out h6] at hl ⊢; exact hl
          · rw [ow_cell h6] at hl ⊢; exact key _ hl
        | obj r => exact key _ hl
        | _ => exact absurd hl.symm hno)
    (fun e => absurd e (not_bkW h hi (by omega)))
    (fun k hk => by
      have h3 := h.sbO k hk
      show (if x.O k = .ag (some i) ∧ k ≠ (x.xs i).c then Hd.dep n else x.O k) = _ ∨ (if x.O k = .ag (some i) ∧ k ≠ (x.xs i).c then Hd.dep n else x.O k) = _
      rw [if_neg (fun e => by rw [e.1] at h3; rcases h3 with h3 | h3 <;> cases h3)]; exact h3)
    (fun k i' hk => by
      have hk : (if x.O k = .ag (some i) ∧ k ≠ (x.xs i).c then Hd.dep n else x.O k) = _ := hk
      split at hk
      · cases hk
      · exact h.agj k i' hk)
  exact ⟨_, _, run_work (h.k0i i) hg hgo, rfl, work_mu (y := y) hi h.jle htag (.inr ⟨rfl, hr0⟩), hB⟩
theorem work_end (ok : GpOk P sp) (h : Bst P sp Φ k0 SB Wh x) {i : Nat} (hi : i < x.j) (hs8 : (x.xs i).s = 8) (hd0 : (x.xs i).d = 0) {fr : Frame} {cs : List Frame} {n : Nat} (hg : x.gs[k0 + i]? = some (Conc.G fr cs))
    (ho : (x.V (some i)).heap[sp.out]? = some (mkD 3 n)) (hq : WEnd P sp fr cs (x.V (some i))) : Ghost P sp Φ k0 SB Wh x := by
  obtain ⟨⟨n', ho', hN⟩, hl⟩ := hq
  obtain ⟨m, hL⟩ := hl x.W (wgLive_of h.wg)
  let y : Wd := { x.xs i with r := Rk.nat m, s := 7 }
  have hD : ∀ b, (Cf.D { x with xs := upd x.xs i y } b).stage = (x.D b).stage := fun b => by
    show min (upd x.xs i y b).s 7 = min (x.xs b).s 7
    by_cases e : b = i
    · subst e; rw [upd_same, hs8]; rfl
    · rw [upd_ne _ _ e]
  have ys : ∀ b, b ≠ i → upd x.xs i y b = x.xs b := fun b e => upd_ne _ _ e
  refine ⟨{ x with xs := upd x.xs i y }, rfl, rfl, rfl, ?_, ⟨h.size, h.k0p, h.jle, h.a, h.old, h.above, h.hd0, fun b hb => ?_, fun b hb => ?_, fun b hb hs => ?_, fun b hb hs => ?_, ?_, h.outW, h.dpl, fun b hb hs m' hm' => ?_, fun b hb hs n2 hn2 hb2 => ?_, h.ms, h.wg, h.mode.congr fun b _ => hD b, h.tri, h.past, h.sbO, h.sbW, h.agj, h.sbV⟩⟩
  · have e1 := sumTo_upd x.xs y Wd.s hi
    have hv : Vc x.j (Cf.D { x with xs := upd x.xs i y }) = Vc x.j x.D := sumTo_congr fun b _ => by simp only [cnt, hD b]
    refine Prod.Lex.left _ _ ?_
    show x.tag.ph sp.J x.j (Vc x.j (Cf.D { x with xs := upd x.xs i y })) + sumTo x.j (fun b => (upd x.xs i y b).s) < x.tag.ph sp.J x.j (Vc x.j x.D) + sumTo x.j (fun b => (x.xs b).s)
    rw [hv]
    have : y.s = 7 := rfl
    omega
  · by_cases e : b = i
    · subst e
      refine ⟨_, hg, ?_⟩
      show WOk P sp b (upd x.xs b y b) _ _ _
      rw [upd_same]
      exact .lib m (Nat.le_refl 7) (show 1 ≤ 7 by omega) rfl (by show LSit P sp.L.tWg sp.Wg 7 m (x.xs b).d _ _; rw [hd0]; exact hL)
    · obtain ⟨g2, h1, h2⟩ := h.wk b hb
      exact ⟨g2, h1, by show WOk P sp b (upd x.xs i y b) _ _ _; rw [ys b e]; exact h2⟩
  · show _ = (upd x.xs i y b).d
    by_cases e : b = i
    · subst e; rw [upd_same]; exact h.wd b hb
    · rw [ys b e]; exact h.wd b hb
  · have hs : (upd x.xs i y b).s ≤ 6 := hs
    by_cases e : b = i
    · subst e; rw [upd_same] at hs; exact absurd hs (by show ¬ 7 ≤ 6; omega)
    · rw [ys b e] at hs; exact h.relA b hb hs
  · have hs : 7 ≤ (upd x.xs i y b).s := hs
    by_cases e : b = i
    · subst e; exact h.relB b hb (by omega)
    · rw [ys b e] at hs; exact h.relB b hb hs
  · have e1 : (fun b => (upd x.xs i y b).c) = fun b => (x.xs b).c := same_c rfl
    show Wst sp Wh x.W _ x.V x.O x.dp x.u (fun b => (upd x.xs i y b).c)
    rw [e1]
    refine h.wst.less (fun b hb => ?_) trivial
    cases b with
    | none => trivial
    | some b =>
      obtain ⟨h1, h2⟩ := hb
      have h2 : (upd x.xs i y b).s = 8 := h2
      by_cases e : b = i
      · subst e; rw [upd_same] at h2; exact absurd h2 (by show ¬ 7 = 8; omega)
      · rw [ys b e] at h2; exact ⟨h1, h2⟩
  · have hs : (upd x.xs i y b).s = 8 := hs
    by_cases e : b = i
    · subst e; rw [upd_same] at hs; exact absurd hs (by show ¬ 7 = 8; omega)
    · rw [ys b e] at hs; exact h.dpw b hb hs m' hm'
  · have hs : (upd x.xs i y b).s ≤ 7 := hs
    by_cases e : b = i
    · subst e
      exact (h.dpw b hi hs8 n' ho' n2 hn2 hb2).2 (by omega)
    · rw [ys b e] at hs; exact h.dpd b hb hs n2 hn2 hb2
end
end Go.Xq
