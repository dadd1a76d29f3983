/- A part of the proof that what the evaluator answers is what the machine does. Its conditions stand in each theorem. -/
import Derived.Test.YtgcgpblccnajjacGreatDoorY17
namespace Go.Xq
section
variable {P : Program} {E : Env} (hE : TyOk P E) {o : Oper}

/-! ### Methods -/
inductive PlR (m : Ren) : Bool → AV → Place → Prop
  | val (x : AV) (v : Value) (h : VR m x v) : PlR m false x (.val v)
  | var (b off : Nat) (i : BI) (h : m b = some i) : PlR m true (.ptr b off) (.var ⟨i.blk, i.base + off, none⟩)
theorem run_asAddr {a : Addr} {w : World} : (asAddr (.pointer (some a))).run P w = .ok a w := rfl
include hE
theorem follow_ok {m : Ren} {H : AH} {w : World} (hr : Rel m H w) : ∀ {path : List FieldStep} {t : Nat} {var : Bool} {k : FoK} {t2 : Nat} {var2 : Bool} {x x2 : AV} {pl : Place},
    followK E path t var = some (k, t2, var2) → PlR m var x pl → k.f H x = some x2 → ∃ pl2, (follow path t pl).run P w = .ok (t2, pl2) w ∧ PlR m var2 x2 pl2
  | [], t, var, k, t2, var2, x, x2, pl, h, hp, hk => by
    simp only [followK, Option.some.injEq, Prod.mk.injEq] at h
    obtain ⟨rfl, rfl, rfl⟩ := h
    cases hk
    exact ⟨pl, by simp [follow], hp⟩
  | s :: r, t, var, k, t2, var2, x, x2, pl, h, hp, hk => by
    simp only [followK, ob_some] at h
    obtain ⟨ts, h1, fd, h2, tf, h3, h⟩ := h
    obtain ⟨fs, hd, hfs⟩ := fields_of h1 h2
    split at h
    · -- a pointer's target
      rename_i hde
      split at h
      · cases h
      · rename_i n hn
        simp only [ob_some, Option.some.injEq, Prod.mk.injEq] at h
        obtain ⟨⟨k1, t1, v1⟩, h4, rfl, rfl, rfl⟩ := h
        cases hp with | val x v hv =>
        simp only at hk
        split at hk
        · rename_i b off
          obtain ⟨i, hi, rfl⟩ := hv.ptr_inv
          obtain ⟨pl2, q1, q2⟩ := follow_ok hr h4 (PlR.var b (off + fd.offset) i hi) hk
          refine ⟨pl2, ?_, q2⟩
          simp only [follow, Sem.run_bind, run_underlying hE h1, Result.andThen, hd, hfs, hde, if_true, Place.get, Sem.run_pure, run_asAddr, fieldPlace_ok hE h3 hn, Nat.add_assoc]
          exact q1
        · cases hk
    · rename_i hde
      split at h
      · cases h
      · rename_i n hn
        simp only [ob_some, Option.some.injEq, Prod.mk.injEq] at h
        obtain ⟨ld, hld, ⟨k1, t1, v1⟩, h4, rfl, rfl, rfl⟩ := h
        cases hp with | var b0 off0 i0 hi0 =>
        simp only [ob_some] at hk
        obtain ⟨p, hp1, hk⟩ := hk
        obtain ⟨a, v', hu, hrun, hv⟩ := ldK_ok hE hld hr (.ptr b0 off0 i0 hi0) hp1
        cases hu
        split at hk
        · rename_i b off
          obtain ⟨i, hi, rfl⟩ := hv.ptr_inv
          obtain ⟨pl2, q1, q2⟩ := follow_ok hr h4 (PlR.var b (off + fd.offset) i hi) hk
          refine ⟨pl2, ?_, q2⟩
          simp only [follow, Sem.run_bind, run_underlying hE h1, Result.andThen, hd, hfs, hde, if_true, Place.get, hrun, run_asAddr, fieldPlace_ok hE h3 hn, Nat.add_assoc]
          exact q1
        · cases hk
    · rename_i hde
      split at h
      · cases h
      · rename_i n hn
        simp only [ob_some, Option.some.injEq, Prod.mk.injEq] at h
        obtain ⟨⟨k1, t1, v1⟩, h4, rfl, rfl, rfl⟩ := h
        cases hp with | var b off i hi =>
        simp only at hk
        obtain ⟨pl2, q1, q2⟩ := follow_ok hr h4 (PlR.var b (off + fd.offset) i hi) hk
        refine ⟨pl2, ?_, q2⟩
        simp only [follow, Sem.run_bind, run_underlying hE h1, Result.andThen, hd, hfs, hde, Bool.false_eq_true, if_false, fieldPlace_ok hE h3 hn, Nat.add_assoc]
        exact q1
    · rename_i hde
      simp only [ob_some, Option.some.injEq, Prod.mk.injEq] at h
      obtain ⟨pk, hpk, ⟨k1, t1, v1⟩, h4, rfl, rfl, rfl⟩ := h
      cases hp with | val x v hv =>
      simp only at hk
      split at hk
      · rename_i cs
        simp only [ob_some] at hk
        obtain ⟨y, hy, hk⟩ := hk
        obtain ⟨vs, hvl, rfl⟩ := hv.agg_inv
        obtain ⟨u, hu, hvu⟩ := partK_ok (w := w) hE hpk hvl hy
        obtain ⟨pl2, q1, q2⟩ := follow_ok hr h4 (PlR.val y u hvu) hk
        refine ⟨pl2, ?_, q2⟩
        simp only [follow, Sem.run_bind, run_underlying hE h1, Result.andThen, hd, hfs, hde, Bool.false_eq_true, if_false, hu]
        exact q1
      · cases hk
omit hE in
theorem run_wrap {a : Addr} {w : World} {xt : TypeId} {nm : String} : (Builtin.ssaWrapNilChk_ #[xt] xt #[.pointer (some a), strVal "", strVal nm]).run P w = .ok (.pointer (some a)) w := rfl
theorem recv_ok {m : Ren} {H : AH} {w : World} (hr : Rel m H w) {xt : Nat} {var pr : Bool} {k : VK} {x r : AV} {pl : Place} (wr : Option String) (h : recvK E xt var pr = some k) (hp : PlR m var x pl) (hk : k.f H x = some r) :
    ∃ v, (receiverAt xt pl pr wr).run P w = .ok v w ∧ VR m r v := by
  simp only [recvK, ob_some] at h
  obtain ⟨ti, h1, h⟩ := h
  split at h
  · rename_i e hd
    split at h
    · cases hp with | var b off i hi =>
      obtain ⟨a, v', hu, hrun, hv⟩ := ldK_ok hE h hr (.ptr b off i hi) hk
      cases hu
      refine ⟨v', ?_, hv⟩
      simp only [receiverAt, Sem.run_bind, run_underlying hE h1, Result.andThen, hd, Place.get, hrun]
    · cases h; cases hk
      cases hp with | val x v hv =>
      refine ⟨v, ?_, hv⟩
      simp only [receiverAt, Sem.run_bind, run_underlying hE h1, Result.andThen, hd, Place.get, Sem.run_pure]
    · simp only [ob_some, Option.some.injEq] at h
      obtain ⟨a, ha, b', hb, rfl⟩ := h
      simp only [ob_some] at hk
      obtain ⟨p, hp1, hk⟩ := hk
      cases hp with | var b off i hi =>
      obtain ⟨a1, v1, hu, hrun, hv⟩ := ldK_ok hE ha hr (.ptr b off i hi) hp1
      cases hu
      obtain ⟨a2, v2, hu2, hrun2, hv2⟩ := ldK_ok hE hb hr hv hk
      subst hu2
      refine ⟨v2, ?_, hv2⟩
      cases wr <;> simp only [receiverAt, Sem.run_bind, run_underlying hE h1, Result.andThen, hd, Place.get, hrun, run_wrap, Sem.run_pure, run_asAddr, hrun2]
    · cases hp with | val x v hv =>
      obtain ⟨a2, v2, hu2, hrun2, hv2⟩ := ldK_ok hE h hr hv hk
      subst hu2
      refine ⟨v2, ?_, hv2⟩
      cases wr <;> simp only [receiverAt, Sem.run_bind, run_underlying hE h1, Result.andThen, hd, Place.get, run_wrap, Sem.run_pure, run_asAddr, hrun2]
  · rename_i hd
    split at h
    · cases h; cases hk
      cases hp with | var b off i hi =>
      refine ⟨_, ?_, .ptr b off i hi⟩
      simp only [receiverAt, Sem.run_bind, run_underlying hE h1, Result.andThen]
      cases hdd : ti.d <;> first | exact absurd hdd (hd _) | rfl
    · cases h
    · cases hp with | var b off i hi =>
      obtain ⟨a, v', hu, hrun, hv⟩ := ldK_ok hE h hr (.ptr b off i hi) hk
      cases hu
      refine ⟨v', ?_, hv⟩
      simp only [receiverAt, Sem.run_bind, run_underlying hE h1, Result.andThen]
      cases hdd : ti.d <;> first | exact absurd hdd (hd _) | (simp only [Place.get]; exact hrun)
    · cases h; cases hk
      cases hp with | val x v hv =>
      refine ⟨v, ?_, hv⟩
      simp only [receiverAt, Sem.run_bind, run_underlying hE h1, Result.andThen]
      cases hdd : ti.d <;> first | exact absurd hdd (hd _) | rfl
theorem method_ok {m : Ren} {H : AH} {w : World} (hr : Rel m H w) {t : Nat} {name : String} {k : MeK} {v r : AV} {u : Value} (h : methodK E t name = some k) (hv : VR m v u) (hk : k.f H v = some r) (fuel : Nat) :
    ∃ x, (method (fuel + 1) t u name).run P w = .ok (k.fid, x) w ∧ VR m r x := by
  simp only [methodK, ob_some] at h
  obtain ⟨ti, h1, me, h2, ⟨fo, t2, v2⟩, h3, h⟩ := h
  obtain ⟨i, q1, _, _, _, q2⟩ := run_typeInfo (w := w) hE h1
  have h5 : i.methods.find? (·.name == name) = some me := by rw [q2, ← Array.find?_toList]; exact findM_ok h2
  split at h
  · cases h
  · rename_i f pr hf
    simp only [ob_some, Option.some.injEq] at h
    obtain ⟨rk, h6, rfl⟩ := h
    simp only [ob_some] at hk
    obtain ⟨x, h7, h8⟩ := hk
    obtain ⟨pl2, g1, g2⟩ := follow_ok hE hr h3 (PlR.val v u hv) h7
    obtain ⟨y, g3, g4⟩ := recv_ok hE hr (if me.path.isEmpty then some ((name.splitOn ".").getLastD name) else none) h6 g2 h8
    refine ⟨y, ?_, g4⟩
    simp only [method, Sem.run_bind, q1, Result.andThen, h5, g1, hf, g3, Sem.run_pure]
end
end Go.Xq
