/- A part of the proof that what the evaluator answers is what the machine does. Its conditions stand in each theorem. -/
import Derived.Test.YtgcgpblccnajjacGreatDoorY9
namespace Go.Xq
section
variable {P : Program} {E : Env} (hE : TyOk P E) {o : Oper}
include hE
theorem eqK_ok {t : Nat} {x y : Operand} {k : EK} (h : eqK E t (isC x || isC y) = some k) : EqOk P k t x y := by
  simp only [eqK, ob_some] at h
  obtain ⟨ti, h1, h⟩ := h
  split at h
  · rename_i hd; cases h; exact eq_bool hE h1 hd
  · rename_i hd; simp only [ob_some, Option.some.injEq] at h; obtain ⟨te, h3, rfl⟩ := h; exact eq_ptr hE h1 hd h3
  · rename_i hd; cases h; exact eq_iface hE h1 hd
  · rename_i hd; cases h; exact eq_sl hE h1 hd
  · rename_i hd; cases h; exact eq_map hE h1 hd
  · rename_i hd; cases h; exact eq_fn hE h1 hd
  · rename_i hd
    simp only [bt_some, ob_some, Option.some.injEq] at h
    obtain ⟨hp, l, hl, rfl⟩ := h
    exact eq_agg hE h1 hd hp hl
  · cases h
theorem look_binK {op : BinOp} {t : Nat} {x y : Operand} {u : Nat} {k : LK} (h : binK E op t x y = some k) (ho : o.op = .binOp op t x y u) : LookOk P k o := by
  simp only [binK, ob_some] at h
  obtain ⟨ti, h1, h⟩ := h
  split at h
  · split at h
    · cases h; exact look_binShl ho
    · cases h; exact look_binShr ho
    · simp only [ob_some, Option.some.injEq] at h
      obtain ⟨g, h2, rfl⟩ := h
      exact look_binInt h2 ho
  · simp only [ob_some, Option.some.injEq] at h
    obtain ⟨g, h2, rfl⟩ := h
    exact look_binStr h2 ho
  · split at h
    · simp only [ob_some, Option.some.injEq] at h
      obtain ⟨g, h2, rfl⟩ := h
      exact look_binEq (neg := false) rfl (eqK_ok hE h2) ho
    · simp only [ob_some, Option.some.injEq] at h
      obtain ⟨g, h2, rfl⟩ := h
      exact look_binEq (neg := true) rfl (eqK_ok hE h2) ho
    · cases h
theorem look_convK {s d : Nat} {x : Operand} {k : LK} (h : convK E s d x = some k) (ho : o.op = .convert s d x) : LookOk P k o := by
  simp only [convK, ob_some] at h
  obtain ⟨ts, h1, td, h2, h⟩ := h
  split at h
  · rename_i e1 e2; cases h; exact look_cvInt hE h1 h2 e1 e2 ho
  · rename_i e1 e2
    simp only [ob_some] at h
    obtain ⟨te, h3, h⟩ := h
    split at h
    · rename_i hb; cases h; exact look_cvStr hE h1 h2 e1 e2 h3 hb ho
    · cases h
  · rename_i e1 e2; cases h; exact look_cvSS hE h1 h2 e1 e2 ho
  · cases h
theorem look_sliceK {t : Nat} {x : Operand} {lo hi mx : Option Operand} {k : LK} (h : sliceK E t x lo hi mx = some k) (ho : o.op = .slice t x lo hi mx) : LookOk P k o := by
  simp only [sliceK, ob_some] at h
  obtain ⟨ti, h1, h⟩ := h
  split at h
  · rename_i hd
    split at h
    · cases h; exact look_slStr hE h1 hd ho
    · cases h
  · rename_i hd
    simp only [ob_some, bt_some, Option.some.injEq] at h
    obtain ⟨te, h3, hx, rfl⟩ := h
    exact look_slSl hE h1 hd h3 hx ho
  · rename_i hd
    simp only [ob_some, bt_some, Option.some.injEq] at h
    obtain ⟨te, h3, hx, rfl⟩ := h
    exact look_slArr hE h1 hd h3 hx ho
  · cases h
theorem look_lookupK {t : Nat} {x i : Operand} {ok : Bool} {k : LK} (h : lookupK E t x i ok = some k) (ho : o.op = .lookup t x i ok) : LookOk P k o := by
  simp only [lookupK, ob_some] at h
  obtain ⟨ti, h1, h⟩ := h
  split at h
  · rename_i hd
    simp only [ob_some, zeroA, Option.some.injEq] at h
    obtain ⟨q, hq, z, ⟨te, h3, hz⟩, rfl⟩ := h
    exact look_lk hE h1 hd hq h3 hz ho
  · cases h
theorem lookK_ok {k : LK} (h : lookK E o.op = some k) : LookOk P k o := by
  unfold lookK at h
  split at h
  · rename_i ho; cases h; exact look_move (.inl ho)
  · rename_i ho; cases h; exact look_move (.inr ho)
  · rename_i ho; cases h; exact look_pick ho
  · rename_i ho; exact look_build hE h ho
  · rename_i ho; simp only [ob_some, Option.some.injEq] at h; obtain ⟨g, h2, rfl⟩ := h; exact look_load hE h2 ho
  · rename_i ho; cases h; exact look_nilChk hE ho
  · rename_i ho; exact look_binK hE h ho
  · rename_i ho; simp only [ob_some, Option.some.injEq] at h; obtain ⟨g, h2, rfl⟩ := h; exact look_unOp h2 ho
  · rename_i ho; exact look_convK hE h ho
  · rename_i ho
    simp only [ob_some] at h; obtain ⟨ti, h1, h⟩ := h
    split at h
    · cases h
    · rename_i hd; cases h; exact look_makeIface hE h1 (by simpa using hd) ho
  · rename_i ho
    split at h
    · cases h
    · rename_i f hf; cases h; exact look_makeFn (fun l e => hf l e) ho
  · rename_i ho; exact look_sliceK hE h ho
  · rename_i ho
    simp only [fieldAddrK, ob_some] at h; obtain ⟨ti, h1, fd, h2, tf, h3, h⟩ := h
    split at h
    · rename_i n hn; cases h; exact look_fAddr hE h1 h2 h3 hn ho
    · cases h
  · rename_i ho
    simp only [fieldK, ob_some, Option.some.injEq] at h; obtain ⟨ti, h1, fd, h2, g, h3, rfl⟩ := h
    exact look_fVal hE h1 h2 h3 ho
  · rename_i ho
    simp only [indexAddrK, ob_some] at h; obtain ⟨ti, h1, h⟩ := h
    split at h
    · rename_i hd; simp only [ob_some, Option.some.injEq] at h; obtain ⟨te, h3, rfl⟩ := h; exact look_ixArr hE h1 hd h3 ho
    · rename_i hd; simp only [ob_some, Option.some.injEq] at h; obtain ⟨te, h3, rfl⟩ := h; exact look_ixSl hE h1 hd h3 ho
    · cases h
  · rename_i ho
    simp only [indexK, ob_some] at h; obtain ⟨ti, h1, h⟩ := h
    split at h
    · rename_i hd; simp only [ob_some, Option.some.injEq] at h; obtain ⟨te, h3, g, h4, rfl⟩ := h; exact look_ixAgg hE h1 hd h3 h4 ho
    · rename_i hd; cases h; exact look_ixStr hE h1 hd ho
    · cases h
  · rename_i ho; exact look_lookupK hE h ho
  · rename_i ho; exact look_assertK hE h ho
  · rename_i ho; cases h; exact look_ex ho
  · rename_i ho; cases h; exact look_entry ho
  · rename_i c ho
    split at h
    · rename_i b hc; exact look_builtin hE h ho hc
    · cases h
  · cases h
end
end Go.Xq
