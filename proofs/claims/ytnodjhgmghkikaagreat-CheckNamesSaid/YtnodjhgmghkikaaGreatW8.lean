/- A part of the proof of this seat's statement. Conditions: in each theorem. -/
import Derived.Test.YtnodjhgmghkikaaGreatW7
namespace Go.Xq
section
variable (P : Program)
def Plain {α : Type} : Sem α → Prop
  | .pure _ => True
  | .load m _ k => m = .plain ∧ ∀ v, Plain (k v)
  | .store m _ _ k => m = .plain ∧ Plain k
  | .new o k => NVo o ∧ ∀ n, Plain (k n)
  | .shape _ _ => False
  | .freeze _ _ _ => False
  | .frozen _ _ => False
  | .getObj _ k => ∀ o, NVo o → Plain (k o)
  | .setObj _ o k => NVo o ∧ Plain k
  | .choose _ k => ∀ n, Plain (k n)
  | .sys _ _ => False
  | .program k => Plain (k P)
  | .mark m k => (m = .noRoom ∨ ∃ f, m = .extern f) ∧ Plain k
  | .halt _ => True
variable {P}
theorem Plain.bind {α β : Type} {s : Sem α} {f : α → Sem β} (hs : Plain P s) (hf : ∀ a, Plain P (f a)) : Plain P (s >>= f) := by
  change Plain P (s.bind f)
  induction s with
  | pure a => exact hf a
  | load m ad k ih => exact ⟨hs.1, fun v => ih v (hs.2 v)⟩
  | store m ad x k ih => exact ⟨hs.1, ih hs.2⟩
  | new o k ih => exact ⟨hs.1, fun n => ih n (hs.2 n)⟩
  | shape r k ih => exact hs.elim
  | freeze ad n k ih => exact hs.elim
  | frozen ad k ih => exact hs.elim
  | getObj r k ih => exact fun o ho => ih o (hs o ho)
  | setObj r o k ih => exact ⟨hs.1, ih hs.2⟩
  | choose q k ih => exact fun n => ih n (hs n)
  | sys c k ih => exact hs.elim
  | program k ih => exact ih P hs
  | mark m k ih => exact ⟨hs.1, ih hs.2⟩
  | halt h => trivial
theorem NV.set {w : World} (h : NV w) {a : Addr} {v : Value} : NV (w.setCell a v) := by
  intro k o ho
  simp only [World.setCell, Array.getElem?_modify] at ho
  split at ho
  · cases hk : w.heap[k]? with
    | none => rw [hk] at ho; cases ho
    | some o' =>
      rw [hk] at ho
      simp only [Option.map_some, Option.some.injEq] at ho
      subst ho
      have := h k o' hk
      cases o' <;> first | exact this | exact ⟨rfl, fun _ _ => by simp⟩
  · exact h k o ho
theorem NV.push {w : World} (h : NV w) {o : Obj} (ho : NVo o) : NV { w with heap := w.heap.push o } := by
  intro k x hx
  have hx : (w.heap.push o)[k]? = some x := hx
  rw [Array.getElem?_push] at hx
  split at hx
  · cases hx; exact ho
  · exact h k x hx
theorem NV.putObj {w : World} (h : NV w) {r : Nat} {o : Obj} (ho : NVo o) : NV { w with heap := w.heap.setIfInBounds r o } := by
  intro k x hx
  have hx : (w.heap.setIfInBounds r o)[k]? = some x := hx
  rw [Array.getElem?_setIfInBounds] at hx
  split at hx
  · split at hx
    · cases hx; exact ho
    · cases hx
  · exact h k x hx
theorem NV.freeze {w : World} (h : NV w) {a : Addr} {n : Nat} : NV (w.freeze a n) := by
  unfold World.freeze
  split
  · exact h
  · intro k o ho
    simp only [Array.getElem?_modify] at ho
    split at ho
    · cases hk : w.heap[k]? with
      | none => rw [hk] at ho; cases ho
      | some o' =>
        rw [hk] at ho
        simp only [Option.map_some, Option.some.injEq] at ho
        subst ho
        have := h k o' hk
        cases o' <;> first | exact this | exact ⟨rfl, fun _ _ => by simp⟩
    · exact h k o ho
theorem farLoad_nv {w : World} (h : NV w) {a : Addr} {b : Bool} {r : Value × List Addr} : w.farLoad P a b ≠ .ok r := by
  intro e
  unfold World.farLoad at e
  split at e
  · rename_i at_ u hk
    exact (h _ _ hk).2 _ _ rfl
  · cases e
theorem farStore_nv {w : World} (h : NV w) {a : Addr} {v : Value} {b : Bool} {r : World × List Addr} : w.farStore P a v b ≠ .ok r := by
  intro e
  unfold World.farStore at e
  split at e
  · rename_i at_ u hk
    exact (h _ _ hk).2 _ _ rfl
  · cases e
theorem run_load_inv {α : Type} {w w' : World} (h : NV w) {m : Mode} {a : Addr} {k : Value → Sem α} {r : α} (hr : (Sem.load m a k).run P w = .ok r w') : ∃ v, w.cell? a = some v ∧ (k v).run P w = .ok r w' := by
  simp only [Sem.run] at hr
  split at hr
  · rename_i v hv; exact ⟨v, hv, hr⟩
  · split at hr
    · rename_i e; exact absurd e (farLoad_nv h)
    · cases hr
theorem run_store_inv {α : Type} {w w' : World} (h : NV w) {m : Mode} {a : Addr} {x : Value} {k : Sem α} {r : α} (hr : (Sem.store m a x k).run P w = .ok r w') :
    (∀ c, x ≠ .agg c) ∧ (∀ c, x ≠ .tuple c) ∧ (∃ v, w.cell? a = some v) ∧ w.frozen? a = false ∧ k.run P (w.setCell a x) = .ok r w' := by
  have h1 : ∀ c, x ≠ .agg c := by rintro c rfl; simp only [Sem.run] at hr; cases hr
  have h2 : ∀ c, x ≠ .tuple c := by rintro c rfl; simp only [Sem.run] at hr; cases hr
  cases hv : w.cell? a with
  | none =>
    exfalso
    cases x <;> first
      | exact h1 _ rfl
      | exact h2 _ rfl
      | (simp only [Sem.run, hv] at hr
         split at hr
         · rename_i e; exact farStore_nv h e
         · cases hr)
  | some v =>
    cases hf : w.frozen? a with
    | true =>
      exfalso
      cases x <;> first
        | exact h1 _ rfl
        | exact h2 _ rfl
        | (simp only [Sem.run, hv, hf, if_true] at hr; cases hr)
    | false =>
      refine ⟨h1, h2, ⟨v, rfl⟩, rfl, ?_⟩
      cases x <;> first
        | exact absurd rfl (h1 _)
        | exact absurd rfl (h2 _)
        | simpa only [Sem.run, hv, hf, Bool.false_eq_true, if_false] using hr
theorem run_getObj_inv {α : Type} {w w' : World} {r : Nat} {k : Obj → Sem α} {x : α} (hr : (Sem.getObj r k).run P w = .ok x w') : ∃ o, w.heap[r]? = some o ∧ (∀ c e f, o ≠ .cells c e f) ∧ (k o).run P w = .ok x w' := by
  simp only [Sem.run] at hr
  split at hr
  · cases hr
  · rename_i o hn ho
    exact ⟨o, ho, fun c e f he => hn c e f he, hr⟩
  · cases hr
theorem run_setObj_inv {α : Type} {w w' : World} {r : Nat} {o : Obj} {k : Sem α} {x : α} (hr : (Sem.setObj r o k).run P w = .ok x w') : (∃ o', w.heap[r]? = some o' ∧ ∀ c e f, o' ≠ .cells c e f) ∧ k.run P { w with heap := w.heap.setIfInBounds r o } = .ok x w' := by
  simp only [Sem.run] at hr
  split at hr
  · cases hr
  · rename_i o' hn ho
    exact ⟨⟨o', ho, fun c e f he => hn c e f he⟩, hr⟩
  · cases hr
def QG (P : Program) {α : Type} (s : Sem α) (w : World) : Prop := ∀ r w', NV w → s.run P w = .ok r w' → SQ P s w ∧ NV w'
theorem Plain.qg {α : Type} {s : Sem α} {w : World} (hp : Plain P s) : QG P s w := by
  intro r w' hn h
  induction s generalizing w with
  | pure a => cases h; exact ⟨trivial, hn⟩
  | load m ad k ih =>
    obtain ⟨v, hv, h⟩ := run_load_inv hn h
    obtain ⟨h1, h2⟩ := ih v (hp.2 v) hn h
    exact ⟨⟨hp.1, v, hv, h1⟩, h2⟩
  | store m ad x k ih =>
    obtain ⟨g1, g2, g3, g4, h⟩ := run_store_inv hn h
    obtain ⟨h1, h2⟩ := ih hp.2 hn.set h
    exact ⟨⟨hp.1, g1, g2, g3, g4, h1⟩, h2⟩
  | new o k ih =>
    obtain ⟨h1, h2⟩ := ih _ (hp.2 _) (hn.push hp.1) h
    exact ⟨⟨hp.1, h1⟩, h2⟩
  | shape r k ih => exact hp.elim
  | freeze ad n k ih => exact hp.elim
  | frozen ad k ih => exact hp.elim
  | getObj rr k ih =>
    obtain ⟨o, ho, hc, h⟩ := run_getObj_inv h
    obtain ⟨h1, h2⟩ := ih o (hp o (hn _ _ ho)) hn h
    exact ⟨⟨o, ho, hc, hn _ _ ho, h1⟩, h2⟩
  | setObj rr o k ih =>
    obtain ⟨hx, h⟩ := run_setObj_inv h
    obtain ⟨h1, h2⟩ := ih hp.2 (hn.putObj hp.1) h
    exact ⟨⟨hx, hp.1, h1⟩, h2⟩
  | choose q k ih =>
    simp only [Sem.run] at h
    show (if q.forced then SQ P (k 0) w else SQ P (k (q.cut (w.tape w.drawn q))) { w with drawn := w.drawn + 1 }) ∧ _
    split at h
    · rename_i g; rw [if_pos g]; exact ih _ (hp _) hn h
    · rename_i g; rw [if_neg g]; exact ih _ (hp _) (fun k o ho => hn k o ho) h
  | sys c k ih => exact hp.elim
  | program k ih => exact ih P hp hn h
  | mark m k ih =>
    obtain ⟨h1, h2⟩ := ih hp.2 hn h
    exact ⟨⟨hp.1, h1⟩, h2⟩
  | halt hh => cases h
theorem run_bind_inv {α β : Type} {s : Sem α} {f : α → Sem β} {w w' : World} {r : β} (h : (s >>= f).run P w = .ok r w') : ∃ a w1, s.run P w = .ok a w1 ∧ (f a).run P w1 = .ok r w' := by
  rw [Sem.run_bind] at h
  cases hs : s.run P w with
  | ok a w1 => rw [hs] at h; exact ⟨a, w1, rfl, h⟩
  | halt hh w1 => rw [hs] at h; cases h
theorem QG.bind {α β : Type} {s : Sem α} {f : α → Sem β} {w : World} (hs : QG P s w) (hf : ∀ a w1, s.run P w = .ok a w1 → QG P (f a) w1) : QG P (s >>= f) w := by
  intro r w' hn h
  obtain ⟨a, w1, h1, h2⟩ := run_bind_inv h
  obtain ⟨g1, g2⟩ := hs a w1 hn h1
  obtain ⟨g3, g4⟩ := hf a w1 h1 r w' g2 h2
  exact ⟨SQ.bind g1 h1 g3, g4⟩
theorem QG.never {α : Type} {s : Sem α} {w : World} (h : ∀ r w', s.run P w ≠ .ok r w') : QG P s w := fun r w' _ e => absurd e (h r w')
theorem QG.pure {α : Type} {a : α} {w : World} : QG P (pure a : Sem α) w := Plain.qg (s := (Pure.pure a : Sem α)) trivial
end
section
variable {P : Program}
class Pl (P : Program) {α : Type} (s : Sem α) : Prop where
  p : Plain P s
theorem plain_pure {α : Type} {a : α} : Plain P (pure a : Sem α) := trivial
theorem plain_stuck {α : Type} {s : String} : Plain P (stuck s : Sem α) := trivial
theorem plain_unsupported {α : Type} {u : Unsupported} : Plain P (unsupported u : Sem α) := trivial
theorem plain_goPanic {α : Type} {v : Value} : Plain P (goPanic v : Sem α) := trivial
theorem plain_throw {α : Type} {v : String} : Plain P (throw v : Sem α) := trivial
theorem plain_program : Plain P program := trivial
theorem plain_load {a : Addr} : Plain P (load a) := ⟨rfl, fun _ => trivial⟩
theorem plain_store {a : Addr} {v : Value} : Plain P (store a v) := ⟨rfl, trivial⟩
theorem plain_getObj {r : Nat} : Plain P (getObj r) := fun _ _ => trivial
theorem plain_choose {q : Question} : Plain P (choose q) := fun _ => trivial
theorem plain_newObj {o : Obj} (h : NVo o) : Plain P (newObj o) := ⟨h, fun _ => trivial⟩
theorem plain_setObj {r : Nat} {o : Obj} (h : NVo o) : Plain P (setObj r o) := ⟨h, trivial⟩
instance {α : Type} {a : α} : Pl P (pure a : Sem α) := ⟨plain_pure⟩
instance {α : Type} {s : String} : Pl P (stuck s : Sem α) := ⟨plain_stuck⟩
instance {α : Type} {u : Unsupported} : Pl P (unsupported u : Sem α) := ⟨plain_unsupported⟩
instance {α : Type} {v : Value} : Pl P (goPanic v : Sem α) := ⟨plain_goPanic⟩
instance {α : Type} {v : String} : Pl P (throw v : Sem α) := ⟨plain_throw⟩
instance : Pl P program := ⟨plain_program⟩
instance {a : Addr} : Pl P (load a) := ⟨plain_load⟩
instance {a : Addr} {v : Value} : Pl P (store a v) := ⟨plain_store⟩
instance {r : Nat} : Pl P (getObj r) := ⟨plain_getObj⟩
instance {q : Question} : Pl P (choose q) := ⟨plain_choose⟩
theorem plain_pure_bind {α β : Type} {a : α} {f : α → Sem β} (h : Plain P (f a)) : Plain P (pure a >>= f) := h
theorem plain_stuck_bind {α β : Type} {s : String} {f : α → Sem β} : Plain P (stuck s >>= f) := trivial
theorem plain_unsupported_bind {α β : Type} {u : Unsupported} {f : α → Sem β} : Plain P (unsupported u >>= f) := trivial
instance {α β : Type} {s : String} {f : α → Sem β} : Pl P (stuck s >>= f) := ⟨plain_stuck_bind⟩
instance {α β : Type} {u : Unsupported} {f : α → Sem β} : Pl P (unsupported u >>= f) := ⟨plain_unsupported_bind⟩
theorem plain_typeInfo {t : TypeId} : Plain P (typeInfo t) := by unfold typeInfo; (repeat' first | exact Pl.p | assumption | exact plain_newObj ⟨rfl, fun _ _ => by simp⟩ | exact plain_setObj ⟨rfl, fun _ _ => by simp⟩ | (with_reducible refine plain_pure_bind ?_) | (with_reducible refine Plain.bind ?_ ?_) | intro _ | split | dsimp only)
instance {t : TypeId} : Pl P (typeInfo t) := ⟨plain_typeInfo⟩
theorem plain_underlying {t : TypeId} : Plain P (underlying t) := by unfold underlying; (repeat' first | exact Pl.p | assumption | exact plain_newObj ⟨rfl, fun _ _ => by simp⟩ | exact plain_setObj ⟨rfl, fun _ _ => by simp⟩ | (with_reducible refine plain_pure_bind ?_) | (with_reducible refine Plain.bind ?_ ?_) | intro _ | split | dsimp only)
instance {t : TypeId} : Pl P (underlying t) := ⟨plain_underlying⟩
theorem plain_sizeOf {t : TypeId} : Plain P (sizeOf t) := by unfold sizeOf; (repeat' first | exact Pl.p | assumption | exact plain_newObj ⟨rfl, fun _ _ => by simp⟩ | exact plain_setObj ⟨rfl, fun _ _ => by simp⟩ | (with_reducible refine plain_pure_bind ?_) | (with_reducible refine Plain.bind ?_ ?_) | intro _ | split | dsimp only)
instance {t : TypeId} : Pl P (sizeOf t) := ⟨plain_sizeOf⟩
theorem plain_zeroValue {t : TypeId} : Plain P (zeroValue t) := by unfold zeroValue; (repeat' first | exact Pl.p | assumption | exact plain_newObj ⟨rfl, fun _ _ => by simp⟩ | exact plain_setObj ⟨rfl, fun _ _ => by simp⟩ | (with_reducible refine plain_pure_bind ?_) | (with_reducible refine Plain.bind ?_ ?_) | intro _ | split | dsimp only)
instance {t : TypeId} : Pl P (zeroValue t) := ⟨plain_zeroValue⟩
theorem plain_isAgg {t : TypeId} : Plain P (isAgg t) := by unfold isAgg; (repeat' first | exact Pl.p | assumption | exact plain_newObj ⟨rfl, fun _ _ => by simp⟩ | exact plain_setObj ⟨rfl, fun _ _ => by simp⟩ | (with_reducible refine plain_pure_bind ?_) | (with_reducible refine Plain.bind ?_ ?_) | intro _ | split | dsimp only)
instance {t : TypeId} : Pl P (isAgg t) := ⟨plain_isAgg⟩
theorem plain_newRow {t : TypeId} {c : Array Value} : Plain P (newRow t c) := by unfold newRow; (repeat' first | exact Pl.p | assumption | exact plain_newObj ⟨rfl, fun _ _ => by simp⟩ | exact plain_setObj ⟨rfl, fun _ _ => by simp⟩ | (with_reducible refine plain_pure_bind ?_) | (with_reducible refine Plain.bind ?_ ?_) | intro _ | split | dsimp only)
instance {t : TypeId} {c : Array Value} : Pl P (newRow t c) := ⟨plain_newRow⟩
theorem plain_newVar {t : TypeId} {v : Value} : Plain P (newVar t v) := by unfold newVar; (repeat' first | exact Pl.p | assumption | exact plain_newObj ⟨rfl, fun _ _ => by simp⟩ | exact plain_setObj ⟨rfl, fun _ _ => by simp⟩ | (with_reducible refine plain_pure_bind ?_) | (with_reducible refine Plain.bind ?_ ?_) | intro _ | split | dsimp only)
instance {t : TypeId} {v : Value} : Pl P (newVar t v) := ⟨plain_newVar⟩
theorem plain_elemOf {t : TypeId} : Plain P (elemOf t) := by unfold elemOf; (repeat' first | exact Pl.p | assumption | exact plain_newObj ⟨rfl, fun _ _ => by simp⟩ | exact plain_setObj ⟨rfl, fun _ _ => by simp⟩ | (with_reducible refine plain_pure_bind ?_) | (with_reducible refine Plain.bind ?_ ?_) | intro _ | split | dsimp only)
instance {t : TypeId} : Pl P (elemOf t) := ⟨plain_elemOf⟩
theorem plain_runtimePanic {α : Type} {e : RuntimeError} : Plain P (runtimePanic e : Sem α) := by unfold runtimePanic; (repeat' first | exact Pl.p | assumption | exact plain_newObj ⟨rfl, fun _ _ => by simp⟩ | exact plain_setObj ⟨rfl, fun _ _ => by simp⟩ | (with_reducible refine plain_pure_bind ?_) | (with_reducible refine Plain.bind ?_ ?_) | intro _ | split | dsimp only)
instance {α : Type} {e : RuntimeError} : Pl P (runtimePanic e : Sem α) := ⟨plain_runtimePanic⟩
theorem plain_loadCellsFrom {a : Addr} : ∀ {n i : Nat} {acc : Array Value}, Plain P (loadCellsFrom a i n acc)
  | 0, _, _ => plain_pure
  | _ + 1, _, _ => plain_load.bind fun _ => plain_loadCellsFrom
theorem plain_storeCells {a : Addr} : ∀ {vs : List Value} {i : Nat}, Plain P (storeCells a vs i)
  | [], _ => plain_pure
  | _ :: _, _ => plain_store.bind fun _ => plain_storeCells
instance {a : Addr} {n i : Nat} {acc : Array Value} : Pl P (loadCellsFrom a i n acc) := ⟨plain_loadCellsFrom⟩
instance {a : Addr} {vs : List Value} {i : Nat} : Pl P (storeCells a vs i) := ⟨plain_storeCells⟩
theorem plain_loadCells {a : Addr} {n : Nat} : Plain P (loadCells a n) := by unfold loadCells; (repeat' first | exact Pl.p | assumption | exact plain_newObj ⟨rfl, fun _ _ => by simp⟩ | exact plain_setObj ⟨rfl, fun _ _ => by simp⟩ | (with_reducible refine plain_pure_bind ?_) | (with_reducible refine Plain.bind ?_ ?_) | intro _ | split | dsimp only)
instance {a : Addr} {n : Nat} : Pl P (loadCells a n) := ⟨plain_loadCells⟩
theorem plain_loadVar {t : TypeId} {a : Addr} : Plain P (loadVar t a) := by unfold loadVar; (repeat' first | exact Pl.p | assumption | exact plain_newObj ⟨rfl, fun _ _ => by simp⟩ | exact plain_setObj ⟨rfl, fun _ _ => by simp⟩ | (with_reducible refine plain_pure_bind ?_) | (with_reducible refine Plain.bind ?_ ?_) | intro _ | split | dsimp only)
instance {t : TypeId} {a : Addr} : Pl P (loadVar t a) := ⟨plain_loadVar⟩
theorem plain_storeVar {t : TypeId} {a : Addr} {v : Value} : Plain P (storeVar t a v) := by unfold storeVar; (repeat' first | exact Pl.p | assumption | exact plain_newObj ⟨rfl, fun _ _ => by simp⟩ | exact plain_setObj ⟨rfl, fun _ _ => by simp⟩ | (with_reducible refine plain_pure_bind ?_) | (with_reducible refine Plain.bind ?_ ?_) | intro _ | split | dsimp only)
instance {t : TypeId} {a : Addr} {v : Value} : Pl P (storeVar t a v) := ⟨plain_storeVar⟩
theorem plain_part {t : TypeId} {c : Array Value} {n : Nat} : Plain P (part t c n) := by unfold part; (repeat' first | exact Pl.p | assumption | exact plain_newObj ⟨rfl, fun _ _ => by simp⟩ | exact plain_setObj ⟨rfl, fun _ _ => by simp⟩ | (with_reducible refine plain_pure_bind ?_) | (with_reducible refine Plain.bind ?_ ?_) | intro _ | split | dsimp only)
instance {t : TypeId} {c : Array Value} {n : Nat} : Pl P (part t c n) := ⟨plain_part⟩
theorem plain_asIntOf {v : Value} : Plain P (asIntOf v) := by unfold asIntOf; (repeat' first | exact Pl.p | assumption | exact plain_newObj ⟨rfl, fun _ _ => by simp⟩ | exact plain_setObj ⟨rfl, fun _ _ => by simp⟩ | (with_reducible refine plain_pure_bind ?_) | (with_reducible refine Plain.bind ?_ ?_) | intro _ | split | dsimp only)
instance {v : Value} : Pl P (asIntOf v) := ⟨plain_asIntOf⟩
theorem plain_asInt {v : Value} : Plain P (asInt v) := by unfold asInt; (repeat' first | exact Pl.p | assumption | exact plain_newObj ⟨rfl, fun _ _ => by simp⟩ | exact plain_setObj ⟨rfl, fun _ _ => by simp⟩ | (with_reducible refine plain_pure_bind ?_) | (with_reducible refine Plain.bind ?_ ?_) | intro _ | split | dsimp only)
instance {v : Value} : Pl P (asInt v) := ⟨plain_asInt⟩
theorem plain_asBool {v : Value} : Plain P (asBool v) := by unfold asBool; (repeat' first | exact Pl.p | assumption | exact plain_newObj ⟨rfl, fun _ _ => by simp⟩ | exact plain_setObj ⟨rfl, fun _ _ => by simp⟩ | (with_reducible refine plain_pure_bind ?_) | (with_reducible refine Plain.bind ?_ ?_) | intro _ | split | dsimp only)
instance {v : Value} : Pl P (asBool v) := ⟨plain_asBool⟩
theorem plain_asString {v : Value} : Plain P (asString v) := by unfold asString; (repeat' first | exact Pl.p | assumption | exact plain_newObj ⟨rfl, fun _ _ => by simp⟩ | exact plain_setObj ⟨rfl, fun _ _ => by simp⟩ | (with_reducible refine plain_pure_bind ?_) | (with_reducible refine Plain.bind ?_ ?_) | intro _ | split | dsimp only)
instance {v : Value} : Pl P (asString v) := ⟨plain_asString⟩
theorem plain_asAgg {v : Value} : Plain P (asAgg v) := by unfold asAgg; (repeat' first | exact Pl.p | assumption | exact plain_newObj ⟨rfl, fun _ _ => by simp⟩ | exact plain_setObj ⟨rfl, fun _ _ => by simp⟩ | (with_reducible refine plain_pure_bind ?_) | (with_reducible refine Plain.bind ?_ ?_) | intro _ | split | dsimp only)
instance {v : Value} : Pl P (asAgg v) := ⟨plain_asAgg⟩
theorem plain_asAddr {v : Value} : Plain P (asAddr v) := by unfold asAddr; (repeat' first | exact Pl.p | assumption | exact plain_newObj ⟨rfl, fun _ _ => by simp⟩ | exact plain_setObj ⟨rfl, fun _ _ => by simp⟩ | (with_reducible refine plain_pure_bind ?_) | (with_reducible refine Plain.bind ?_ ?_) | intro _ | split | dsimp only)
instance {v : Value} : Pl P (asAddr v) := ⟨plain_asAddr⟩
theorem plain_sureAddr {v : Value} : Plain P (Instr.sureAddr v) := by unfold Instr.sureAddr; (repeat' first | exact Pl.p | assumption | exact plain_newObj ⟨rfl, fun _ _ => by simp⟩ | exact plain_setObj ⟨rfl, fun _ _ => by simp⟩ | (with_reducible refine plain_pure_bind ?_) | (with_reducible refine Plain.bind ?_ ?_) | intro _ | split | dsimp only)
instance {v : Value} : Pl P (Instr.sureAddr v) := ⟨plain_sureAddr⟩
theorem plain_typeStr {t : TypeId} : Plain P (typeStr t) := by unfold typeStr; (repeat' first | exact Pl.p | assumption | exact plain_newObj ⟨rfl, fun _ _ => by simp⟩ | exact plain_setObj ⟨rfl, fun _ _ => by simp⟩ | (with_reducible refine plain_pure_bind ?_) | (with_reducible refine Plain.bind ?_ ?_) | intro _ | split | dsimp only)
instance {t : TypeId} : Pl P (typeStr t) := ⟨plain_typeStr⟩
theorem plain_askRoom {n : Nat} : Plain P (askRoom n) := by
  unfold askRoom
  split
  · exact ⟨.inl rfl, trivial⟩
  · exact plain_pure
theorem plain_map {α β : Type} {f : α → β} {s : Sem α} (h : Plain P s) : Plain P (f <$> s) := Plain.bind h fun _ => plain_pure
theorem plain_mapM {α β : Type} {f : α → Sem β} (h : ∀ a, Plain P (f a)) : ∀ (l : List α), Plain P (l.mapM f)
  | [] => by rw [List.mapM_nil]; exact plain_pure
  | a :: l => by rw [List.mapM_cons]; exact (h a).bind fun _ => (plain_mapM h l).bind fun _ => plain_pure
theorem plain_mapMA {α β : Type} {f : α → Sem β} (h : ∀ a, Plain P (f a)) (l : Array α) : Plain P (l.mapM f) := by
  rw [← Array.toArray_toList (xs := l), List.mapM_toArray]
  exact Plain.bind (plain_mapM h _) fun _ => plain_pure
instance {n : Nat} : Pl P (askRoom n) := ⟨plain_askRoom⟩
theorem plain_boundsPanic {α : Type} {k : IntKind} {x y : Int} {c : BoundsCode} : Plain P (boundsPanic k x y c : Sem α) := by unfold boundsPanic; (repeat' first | exact Pl.p | assumption | exact plain_newObj ⟨rfl, fun _ _ => by simp⟩ | exact plain_setObj ⟨rfl, fun _ _ => by simp⟩ | (with_reducible refine plain_mapMA ?_ _) | (with_reducible refine plain_map ?_) | (with_reducible refine plain_pure_bind ?_) | (with_reducible refine Plain.bind ?_ ?_) | intro _ | split | dsimp only)
instance {α : Type} {k : IntKind} {x y : Int} {c : BoundsCode} : Pl P (boundsPanic k x y c : Sem α) := ⟨plain_boundsPanic⟩
theorem plain_alloc {t : TypeId} {b : Bool} {v : Value} : Plain P (Instr.alloc t b v) := by unfold Instr.alloc; (repeat' first | exact Pl.p | assumption | exact plain_newObj ⟨rfl, fun _ _ => by simp⟩ | exact plain_setObj ⟨rfl, fun _ _ => by simp⟩ | (with_reducible refine plain_mapMA ?_ _) | (with_reducible refine plain_map ?_) | (with_reducible refine plain_pure_bind ?_) | (with_reducible refine Plain.bind ?_ ?_) | intro _ | split | dsimp only)
instance {t : TypeId} {b : Bool} {v : Value} : Pl P (Instr.alloc t b v) := ⟨plain_alloc⟩
theorem plain_box {t : TypeId} {v : Value} : Plain P (Instr.box t v) := by unfold Instr.box; (repeat' first | exact Pl.p | assumption | exact plain_newObj ⟨rfl, fun _ _ => by simp⟩ | exact plain_setObj ⟨rfl, fun _ _ => by simp⟩ | (with_reducible refine plain_mapMA ?_ _) | (with_reducible refine plain_map ?_) | (with_reducible refine plain_pure_bind ?_) | (with_reducible refine Plain.bind ?_ ?_) | intro _ | split | dsimp only)
instance {t : TypeId} {v : Value} : Pl P (Instr.box t v) := ⟨plain_box⟩
theorem plain_build {t : TypeId} {ps : Array (Nat × Value)} : Plain P (Instr.build t ps) := by unfold Instr.build; (repeat' first | exact Pl.p | assumption | exact plain_newObj ⟨rfl, fun _ _ => by simp⟩ | exact plain_setObj ⟨rfl, fun _ _ => by simp⟩ | (with_reducible refine plain_mapMA ?_ _) | (with_reducible refine plain_map ?_) | (with_reducible refine plain_pure_bind ?_) | (with_reducible refine Plain.bind ?_ ?_) | intro _ | split | dsimp only)
instance {t : TypeId} {ps : Array (Nat × Value)} : Pl P (Instr.build t ps) := ⟨plain_build⟩
theorem plain_buildSlice {t : TypeId} {n : Nat} {ps : Array (Nat × Value)} : Plain P (Instr.buildSlice t n ps) := by unfold Instr.buildSlice; (repeat' first | exact Pl.p | assumption | exact plain_newObj ⟨rfl, fun _ _ => by simp⟩ | exact plain_setObj ⟨rfl, fun _ _ => by simp⟩ | (with_reducible refine plain_mapMA ?_ _) | (with_reducible refine plain_map ?_) | (with_reducible refine plain_pure_bind ?_) | (with_reducible refine Plain.bind ?_ ?_) | intro _ | split | dsimp only)
instance {t : TypeId} {n : Nat} {ps : Array (Nat × Value)} : Pl P (Instr.buildSlice t n ps) := ⟨plain_buildSlice⟩
theorem plain_loadAt {t : TypeId} {v : Value} : Plain P (Instr.loadAt t v) := by unfold Instr.loadAt; (repeat' first | exact Pl.p | assumption | exact plain_newObj ⟨rfl, fun _ _ => by simp⟩ | exact plain_setObj ⟨rfl, fun _ _ => by simp⟩ | (with_reducible refine plain_mapMA ?_ _) | (with_reducible refine plain_map ?_) | (with_reducible refine plain_pure_bind ?_) | (with_reducible refine Plain.bind ?_ ?_) | intro _ | split | dsimp only)
instance {t : TypeId} {v : Value} : Pl P (Instr.loadAt t v) := ⟨plain_loadAt⟩
theorem plain_storeAt {t : TypeId} {v x : Value} : Plain P (Instr.storeAt t v x) := by unfold Instr.storeAt; (repeat' first | exact Pl.p | assumption | exact plain_newObj ⟨rfl, fun _ _ => by simp⟩ | exact plain_setObj ⟨rfl, fun _ _ => by simp⟩ | (with_reducible refine plain_mapMA ?_ _) | (with_reducible refine plain_map ?_) | (with_reducible refine plain_pure_bind ?_) | (with_reducible refine Plain.bind ?_ ?_) | intro _ | split | dsimp only)
instance {t : TypeId} {v x : Value} : Pl P (Instr.storeAt t v x) := ⟨plain_storeAt⟩
theorem plain_makeInterface {t : TypeId} {v : Value} : Plain P (Instr.makeInterface t v) := by unfold Instr.makeInterface; (repeat' first | exact Pl.p | assumption | exact plain_newObj ⟨rfl, fun _ _ => by simp⟩ | exact plain_setObj ⟨rfl, fun _ _ => by simp⟩ | (with_reducible refine plain_mapMA ?_ _) | (with_reducible refine plain_map ?_) | (with_reducible refine plain_pure_bind ?_) | (with_reducible refine Plain.bind ?_ ?_) | intro _ | split | dsimp only)
instance {t : TypeId} {v : Value} : Pl P (Instr.makeInterface t v) := ⟨plain_makeInterface⟩
theorem plain_makeMap {t : TypeId} : Plain P (Instr.makeMap t none) := by unfold Instr.makeMap; (repeat' first | exact Pl.p | assumption | exact plain_newObj ⟨rfl, fun _ _ => by simp⟩ | exact plain_setObj ⟨rfl, fun _ _ => by simp⟩ | (with_reducible refine plain_mapMA ?_ _) | (with_reducible refine plain_map ?_) | (with_reducible refine plain_pure_bind ?_) | (with_reducible refine Plain.bind ?_ ?_) | intro _ | split | dsimp only)
instance {t : TypeId} : Pl P (Instr.makeMap t none) := ⟨plain_makeMap⟩
theorem plain_makeSlice {t : TypeId} {l c : Value} : Plain P (Instr.makeSlice t l c) := by unfold Instr.makeSlice; (repeat' first | exact Pl.p | assumption | exact plain_newObj ⟨rfl, fun _ _ => by simp⟩ | exact plain_setObj ⟨rfl, fun _ _ => by simp⟩ | (with_reducible refine plain_mapMA ?_ _) | (with_reducible refine plain_map ?_) | (with_reducible refine plain_pure_bind ?_) | (with_reducible refine Plain.bind ?_ ?_) | intro _ | split | dsimp only)
instance {t : TypeId} {l c : Value} : Pl P (Instr.makeSlice t l c) := ⟨plain_makeSlice⟩
theorem plain_field {t : TypeId} {v : Value} {n : Nat} : Plain P (Instr.field t v n) := by unfold Instr.field; (repeat' first | exact Pl.p | assumption | exact plain_newObj ⟨rfl, fun _ _ => by simp⟩ | exact plain_setObj ⟨rfl, fun _ _ => by simp⟩ | (with_reducible refine plain_mapMA ?_ _) | (with_reducible refine plain_map ?_) | (with_reducible refine plain_pure_bind ?_) | (with_reducible refine Plain.bind ?_ ?_) | intro _ | split | dsimp only)
instance {t : TypeId} {v : Value} {n : Nat} : Pl P (Instr.field t v n) := ⟨plain_field⟩
theorem plain_index {t : TypeId} {v x : Value} : Plain P (Instr.index t v x) := by unfold Instr.index; (repeat' first | exact Pl.p | assumption | exact plain_newObj ⟨rfl, fun _ _ => by simp⟩ | exact plain_setObj ⟨rfl, fun _ _ => by simp⟩ | (with_reducible refine plain_mapMA ?_ _) | (with_reducible refine plain_map ?_) | (with_reducible refine plain_pure_bind ?_) | (with_reducible refine Plain.bind ?_ ?_) | intro _ | split | dsimp only)
instance {t : TypeId} {v x : Value} : Pl P (Instr.index t v x) := ⟨plain_index⟩
theorem plain_indexAt {t : TypeId} {v x : Value} : Plain P (Instr.indexAt t v x) := by unfold Instr.indexAt; (repeat' first | exact Pl.p | assumption | exact plain_newObj ⟨rfl, fun _ _ => by simp⟩ | exact plain_setObj ⟨rfl, fun _ _ => by simp⟩ | (with_reducible refine plain_mapMA ?_ _) | (with_reducible refine plain_map ?_) | (with_reducible refine plain_pure_bind ?_) | (with_reducible refine Plain.bind ?_ ?_) | intro _ | split | dsimp only)
instance {t : TypeId} {v x : Value} : Pl P (Instr.indexAt t v x) := ⟨plain_indexAt⟩
theorem plain_sliceBound {v : Value} {n : Nat} {c : BoundsCode} : Plain P (Instr.sliceBound v n c) := by unfold Instr.sliceBound; (repeat' first | exact Pl.p | assumption | exact plain_newObj ⟨rfl, fun _ _ => by simp⟩ | exact plain_setObj ⟨rfl, fun _ _ => by simp⟩ | (with_reducible refine plain_mapMA ?_ _) | (with_reducible refine plain_map ?_) | (with_reducible refine plain_pure_bind ?_) | (with_reducible refine Plain.bind ?_ ?_) | intro _ | split | dsimp only)
instance {v : Value} {n : Nat} {c : BoundsCode} : Pl P (Instr.sliceBound v n c) := ⟨plain_sliceBound⟩
theorem plain_sliceBounds {b : Bool} {n m : Nat} {x y z : Option Value} : Plain P (Instr.sliceBounds b n m x y z) := by unfold Instr.sliceBounds; (repeat' first | exact Pl.p | assumption | exact plain_newObj ⟨rfl, fun _ _ => by simp⟩ | exact plain_setObj ⟨rfl, fun _ _ => by simp⟩ | (with_reducible refine plain_mapMA ?_ _) | (with_reducible refine plain_map ?_) | (with_reducible refine plain_pure_bind ?_) | (with_reducible refine Plain.bind ?_ ?_) | intro _ | split | dsimp only)
instance {b : Bool} {n m : Nat} {x y z : Option Value} : Pl P (Instr.sliceBounds b n m x y z) := ⟨plain_sliceBounds⟩
theorem plain_slice {t : TypeId} {v : Value} {x y z : Option Value} : Plain P (Instr.slice t v x y z) := by unfold Instr.slice; (repeat' first | exact Pl.p | assumption | exact plain_newObj ⟨rfl, fun _ _ => by simp⟩ | exact plain_setObj ⟨rfl, fun _ _ => by simp⟩ | (with_reducible refine plain_mapMA ?_ _) | (with_reducible refine plain_map ?_) | (with_reducible refine plain_pure_bind ?_) | (with_reducible refine Plain.bind ?_ ?_) | intro _ | split | dsimp only)
instance {t : TypeId} {v : Value} {x y z : Option Value} : Pl P (Instr.slice t v x y z) := ⟨plain_slice⟩
theorem plain_sliceAt {t : TypeId} {v : Value} {x y z : Option Value} : Plain P (Instr.sliceAt t v x y z) := by unfold Instr.sliceAt; (repeat' first | exact Pl.p | assumption | exact plain_newObj ⟨rfl, fun _ _ => by simp⟩ | exact plain_setObj ⟨rfl, fun _ _ => by simp⟩ | (with_reducible refine plain_mapMA ?_ _) | (with_reducible refine plain_map ?_) | (with_reducible refine plain_pure_bind ?_) | (with_reducible refine Plain.bind ?_ ?_) | intro _ | split | dsimp only)
instance {t : TypeId} {v : Value} {x y z : Option Value} : Pl P (Instr.sliceAt t v x y z) := ⟨plain_sliceAt⟩
theorem plain_typeAssert {v : Value} {t u : TypeId} {b : Bool} : Plain P (Instr.typeAssert v t u b) := by unfold Instr.typeAssert; (repeat' first | exact Pl.p | assumption | exact plain_newObj ⟨rfl, fun _ _ => by simp⟩ | exact plain_setObj ⟨rfl, fun _ _ => by simp⟩ | (with_reducible refine plain_mapMA ?_ _) | (with_reducible refine plain_map ?_) | (with_reducible refine plain_pure_bind ?_) | (with_reducible refine Plain.bind ?_ ?_) | intro _ | split | dsimp only)
instance {v : Value} {t u : TypeId} {b : Bool} : Pl P (Instr.typeAssert v t u b) := ⟨plain_typeAssert⟩
theorem plain_extract {v : Value} {n : Nat} : Plain P (Instr.extract v n) := by unfold Instr.extract; (repeat' first | exact Pl.p | assumption | exact plain_newObj ⟨rfl, fun _ _ => by simp⟩ | exact plain_setObj ⟨rfl, fun _ _ => by simp⟩ | (with_reducible refine plain_mapMA ?_ _) | (with_reducible refine plain_map ?_) | (with_reducible refine plain_pure_bind ?_) | (with_reducible refine Plain.bind ?_ ?_) | intro _ | split | dsimp only)
instance {v : Value} {n : Nat} : Pl P (Instr.extract v n) := ⟨plain_extract⟩
theorem plain_entry {v : Value} : Plain P (Instr.entry v) := by unfold Instr.entry; (repeat' first | exact Pl.p | assumption | exact plain_newObj ⟨rfl, fun _ _ => by simp⟩ | exact plain_setObj ⟨rfl, fun _ _ => by simp⟩ | (with_reducible refine plain_mapMA ?_ _) | (with_reducible refine plain_map ?_) | (with_reducible refine plain_pure_bind ?_) | (with_reducible refine Plain.bind ?_ ?_) | intro _ | split | dsimp only)
instance {v : Value} : Pl P (Instr.entry v) := ⟨plain_entry⟩
theorem plain_next {v : Value} {b : Bool} {t : TypeId} : Plain P (Instr.next v b t) := by unfold Instr.next; (repeat' first | exact Pl.p | assumption | exact plain_newObj ⟨rfl, fun _ _ => by simp⟩ | exact plain_setObj ⟨rfl, fun _ _ => by simp⟩ | (with_reducible refine plain_mapMA ?_ _) | (with_reducible refine plain_map ?_) | (with_reducible refine plain_pure_bind ?_) | (with_reducible refine Plain.bind ?_ ?_) | intro _ | split | dsimp only)
instance {v : Value} {b : Bool} {t : TypeId} : Pl P (Instr.next v b t) := ⟨plain_next⟩
theorem plain_range {t : TypeId} {v : Value} : Plain P (Instr.range t v) := by unfold Instr.range; (repeat' first | exact Pl.p | assumption | exact plain_newObj ⟨rfl, fun _ _ => by simp⟩ | exact plain_setObj ⟨rfl, fun _ _ => by simp⟩ | (with_reducible refine plain_mapMA ?_ _) | (with_reducible refine plain_map ?_) | (with_reducible refine plain_pure_bind ?_) | (with_reducible refine Plain.bind ?_ ?_) | intro _ | split | dsimp only)
instance {t : TypeId} {v : Value} : Pl P (Instr.range t v) := ⟨plain_range⟩
theorem plain_intArith {op : BinOp} {k : IntKind} {x y : Int} : Plain P (Op.intArith op k x y) := by unfold Op.intArith; (repeat' first | exact Pl.p | assumption | exact plain_newObj ⟨rfl, fun _ _ => by simp⟩ | exact plain_setObj ⟨rfl, fun _ _ => by simp⟩ | (with_reducible refine plain_mapMA ?_ _) | (with_reducible refine plain_map ?_) | (with_reducible refine plain_pure_bind ?_) | (with_reducible refine Plain.bind ?_ ?_) | intro _ | split | dsimp only)
instance {op : BinOp} {k : IntKind} {x y : Int} : Pl P (Op.intArith op k x y) := ⟨plain_intArith⟩
theorem plain_intDiv {op : BinOp} {k : IntKind} {x y : Int} : Plain P (Op.intDiv op k x y) := by unfold Op.intDiv; (repeat' first | exact Pl.p | assumption | exact plain_newObj ⟨rfl, fun _ _ => by simp⟩ | exact plain_setObj ⟨rfl, fun _ _ => by simp⟩ | (with_reducible refine plain_mapMA ?_ _) | (with_reducible refine plain_map ?_) | (with_reducible refine plain_pure_bind ?_) | (with_reducible refine Plain.bind ?_ ?_) | intro _ | split | dsimp only)
instance {op : BinOp} {k : IntKind} {x y : Int} : Pl P (Op.intDiv op k x y) := ⟨plain_intDiv⟩
theorem plain_intBits {op : BinOp} {k : IntKind} {x y : Int} : Plain P (Op.intBits op k x y) := by unfold Op.intBits; (repeat' first | exact Pl.p | assumption | exact plain_newObj ⟨rfl, fun _ _ => by simp⟩ | exact plain_setObj ⟨rfl, fun _ _ => by simp⟩ | (with_reducible refine plain_mapMA ?_ _) | (with_reducible refine plain_map ?_) | (with_reducible refine plain_pure_bind ?_) | (with_reducible refine Plain.bind ?_ ?_) | intro _ | split | dsimp only)
instance {op : BinOp} {k : IntKind} {x y : Int} : Pl P (Op.intBits op k x y) := ⟨plain_intBits⟩
theorem plain_intCmp {op : BinOp} {x y : Int} : Plain P (Op.intCmp op x y) := by unfold Op.intCmp; (repeat' first | exact Pl.p | assumption | exact plain_newObj ⟨rfl, fun _ _ => by simp⟩ | exact plain_setObj ⟨rfl, fun _ _ => by simp⟩ | (with_reducible refine plain_mapMA ?_ _) | (with_reducible refine plain_map ?_) | (with_reducible refine plain_pure_bind ?_) | (with_reducible refine Plain.bind ?_ ?_) | intro _ | split | dsimp only)
instance {op : BinOp} {x y : Int} : Pl P (Op.intCmp op x y) := ⟨plain_intCmp⟩
theorem plain_shift {op : BinOp} {k l : IntKind} {x y : Int} : Plain P (Op.shift op k x l y) := by unfold Op.shift; (repeat' first | exact Pl.p | assumption | exact plain_newObj ⟨rfl, fun _ _ => by simp⟩ | exact plain_setObj ⟨rfl, fun _ _ => by simp⟩ | (with_reducible refine plain_mapMA ?_ _) | (with_reducible refine plain_map ?_) | (with_reducible refine plain_pure_bind ?_) | (with_reducible refine Plain.bind ?_ ?_) | intro _ | split | dsimp only)
instance {op : BinOp} {k l : IntKind} {x y : Int} : Pl P (Op.shift op k x l y) := ⟨plain_shift⟩
theorem plain_stringOp {op : BinOp} {x y : ByteArray} : Plain P (Op.stringOp op x y) := by unfold Op.stringOp; (repeat' first | exact Pl.p | assumption | exact plain_newObj ⟨rfl, fun _ _ => by simp⟩ | exact plain_setObj ⟨rfl, fun _ _ => by simp⟩ | (with_reducible refine plain_mapMA ?_ _) | (with_reducible refine plain_map ?_) | (with_reducible refine plain_pure_bind ?_) | (with_reducible refine Plain.bind ?_ ?_) | intro _ | split | dsimp only)
instance {op : BinOp} {x y : ByteArray} : Pl P (Op.stringOp op x y) := ⟨plain_stringOp⟩
theorem plain_unary {op : UnOp} {v : Value} : Plain P (Op.unary op v) := by unfold Op.unary; (repeat' first | exact Pl.p | assumption | exact plain_newObj ⟨rfl, fun _ _ => by simp⟩ | exact plain_setObj ⟨rfl, fun _ _ => by simp⟩ | (with_reducible refine plain_mapMA ?_ _) | (with_reducible refine plain_map ?_) | (with_reducible refine plain_pure_bind ?_) | (with_reducible refine Plain.bind ?_ ?_) | intro _ | split | dsimp only)
instance {op : UnOp} {v : Value} : Pl P (Op.unary op v) := ⟨plain_unary⟩
theorem plain_intToInt {k : IntKind} {n : Int} : Plain P (Conv.intToInt k n) := by unfold Conv.intToInt; (repeat' first | exact Pl.p | assumption | exact plain_newObj ⟨rfl, fun _ _ => by simp⟩ | exact plain_setObj ⟨rfl, fun _ _ => by simp⟩ | (with_reducible refine plain_mapMA ?_ _) | (with_reducible refine plain_map ?_) | (with_reducible refine plain_pure_bind ?_) | (with_reducible refine Plain.bind ?_ ?_) | intro _ | split | dsimp only)
instance {k : IntKind} {n : Int} : Pl P (Conv.intToInt k n) := ⟨plain_intToInt⟩
theorem plain_len {a : Array TypeId} {t : TypeId} {v : Array Value} : Plain P (Builtin.len_ a t v) := by unfold Builtin.len_; (repeat' first | exact Pl.p | assumption | exact plain_newObj ⟨rfl, fun _ _ => by simp⟩ | exact plain_setObj ⟨rfl, fun _ _ => by simp⟩ | (with_reducible refine plain_mapMA ?_ _) | (with_reducible refine plain_map ?_) | (with_reducible refine plain_pure_bind ?_) | (with_reducible refine Plain.bind ?_ ?_) | intro _ | split | dsimp only)
instance {a : Array TypeId} {t : TypeId} {v : Array Value} : Pl P (Builtin.len_ a t v) := ⟨plain_len⟩
theorem plain_cap {a : Array TypeId} {t : TypeId} {v : Array Value} : Plain P (Builtin.cap_ a t v) := by unfold Builtin.cap_; (repeat' first | exact Pl.p | assumption | exact plain_newObj ⟨rfl, fun _ _ => by simp⟩ | exact plain_setObj ⟨rfl, fun _ _ => by simp⟩ | (with_reducible refine plain_mapMA ?_ _) | (with_reducible refine plain_map ?_) | (with_reducible refine plain_pure_bind ?_) | (with_reducible refine Plain.bind ?_ ?_) | intro _ | split | dsimp only)
instance {a : Array TypeId} {t : TypeId} {v : Array Value} : Pl P (Builtin.cap_ a t v) := ⟨plain_cap⟩
theorem plain_lenOf {v : Value} : Plain P (Builtin.lenOf v) := by unfold Builtin.lenOf; (repeat' first | exact Pl.p | assumption | exact plain_newObj ⟨rfl, fun _ _ => by simp⟩ | exact plain_setObj ⟨rfl, fun _ _ => by simp⟩ | (with_reducible refine plain_mapMA ?_ _) | (with_reducible refine plain_map ?_) | (with_reducible refine plain_pure_bind ?_) | (with_reducible refine Plain.bind ?_ ?_) | intro _ | split | dsimp only)
instance {v : Value} : Pl P (Builtin.lenOf v) := ⟨plain_lenOf⟩
theorem plain_firstCells {s n : Nat} {v : Value} : Plain P (Builtin.firstCells s n v) := by unfold Builtin.firstCells; (repeat' first | exact Pl.p | assumption | exact plain_newObj ⟨rfl, fun _ _ => by simp⟩ | exact plain_setObj ⟨rfl, fun _ _ => by simp⟩ | (with_reducible refine plain_mapMA ?_ _) | (with_reducible refine plain_map ?_) | (with_reducible refine plain_pure_bind ?_) | (with_reducible refine Plain.bind ?_ ?_) | intro _ | split | dsimp only)
instance {s n : Nat} {v : Value} : Pl P (Builtin.firstCells s n v) := ⟨plain_firstCells⟩
theorem plain_copy {a : Array TypeId} {t : TypeId} {v : Array Value} : Plain P (Builtin.copy_ a t v) := by unfold Builtin.copy_; (repeat' first | exact Pl.p | assumption | exact plain_newObj ⟨rfl, fun _ _ => by simp⟩ | exact plain_setObj ⟨rfl, fun _ _ => by simp⟩ | (with_reducible refine plain_mapMA ?_ _) | (with_reducible refine plain_map ?_) | (with_reducible refine plain_pure_bind ?_) | (with_reducible refine Plain.bind ?_ ?_) | intro _ | split | dsimp only)
instance {a : Array TypeId} {t : TypeId} {v : Array Value} : Pl P (Builtin.copy_ a t v) := ⟨plain_copy⟩
end
end Go.Xq
