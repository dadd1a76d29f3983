/- A part of the proof that what the evaluator answers is what the machine does. Its conditions stand in each theorem. -/
import Derived.Test.YtgcgpblccnajjacGreatDoorY34
namespace Go.Xq
section
variable {P : Program} {E : Env} (hE : TyOk P E) (hX : ExtOk P E) (hm : P.follows .mixedOrders = true)
/-! ### Any code, any function -/
include hE hX hm in
theorem compK_ok : CodeOk P E := by
  intro c
  induction c with
  | skip => intro fid n rd k h b cx hn hrd hro hsm hfn; cases h; exact skip_ok (.inl rfl)
  | label l => intro fid n rd k h b cx hn hrd hro hsm hfn; cases h; exact skip_ok (.inr ⟨l, rfl⟩)
  | region id ops draw =>
    intro fid n rd k h b cx hn hrd hro hsm hfn
    subst hn hrd
    cases draw with
    | false => exact region_ok hE hX (rd := cx.rd.isSome) (by rw [hro, hsm]) h
    | true => exact draw_ok hE hX hm h
  | seq a c iha ihb =>
    intro fid n rd k h b cx hn hrd hro hsm hfn
    simp only [compK, ob_some, Option.some.injEq] at h
    obtain ⟨x, h1, y, h2, rfl⟩ := h
    exact seq_ok (iha fid n rd x h1 b cx hn hrd hro hsm hfn) (ihb fid n rd y h2 b cx hn hrd hro hsm hfn)
  | cond q a c iha ihb =>
    intro fid n rd k h b cx hn hrd hro hsm hfn
    simp only [compK, ob_some, Option.some.injEq] at h
    obtain ⟨x, h1, y, h2, rfl⟩ := h
    exact cond_ok (iha fid n rd x h1 b cx hn hrd hro hsm hfn) (ihb fid n rd y h2 b cx hn hrd hro hsm hfn)
  | block id c ih =>
    intro fid n rd k h b cx hn hrd hro hsm hfn
    simp only [compK, ob_some, Option.some.injEq] at h
    obtain ⟨x, h1, rfl⟩ := h
    exact block_ok (ih fid n rd x h1 b cx hn hrd hro hsm hfn)
  | loop c ih =>
    intro fid n rd k h b cx hn hrd hro hsm hfn
    simp only [compK, ob_some, Option.some.injEq] at h
    obtain ⟨x, h1, rfl⟩ := h
    exact loop_ok (ih fid n rd x h1 b cx hn hrd hro hsm hfn)
  | scope c ih =>
    intro fid n rd k h b cx hn hrd hro hsm hfn
    simp only [compK] at h
    exact scope_ok (ih fid n rd k h b cx hn hrd hro hsm hfn)
  | exit id => intro fid n rd k h b cx hn hrd hro hsm hfn; cases h; exact exit_ok
  | ret => intro fid n rd k h b cx hn hrd hro hsm hfn; cases h; exact ret_ok
  | rangeFunc f ps assign body _ _ =>
    intro fid n rd k h b cx hn hrd hro hsm hfn
    cases h
    subst hn
    exact range_ok hrd hro hfn
  | goto l => intro fid n rd k h b cx hn hrd hro hsm hfn; cases h; intro R hR m H w T D a K cs hcs hr hf; trivial
  | refuse r => intro fid n rd k h b cx hn hrd hro hsm hfn; cases h; intro R hR m H w T D a K cs hcs hr hf; trivial
structure FnsOk (P : Program) (E : Env) : Prop where
  fn : ∀ f fi, E.fn.get (bits f) = some fi → mkFI P f = some fi
theorem fnsOk_of (P : Program) (dt df : Nat) (s e) : FnsOk P (Env.of P dt df s e) :=
  ⟨fun t ti h => by
    have h1 : Tr.get (bits t) (Tr.tab df (mkFI P)) = some ti := h
    have := Tr.get_tab _ _ _ _ h1
    rwa [dec_bits] at this⟩
/-- what is known of functions by other means -/
def SumOk (P : Program) (E : Env) : Prop := ∀ f args H v H2, E.sums f args H = some (v, H2) → Enters P f ∧ ∀ m w vs, Rel m H w → VL m args vs → XC P .normal f vs.toArray w (Post m H w v H2)
variable (hF : FnsOk P E)
include hE hX hm hF in
theorem dcall_ok {R : Rec} (hR : RecOk P R) (kind : CallKind) {f : Nat} {args : AV} {H H2 : AH} {v : AV} (h : dcallA E R f args H = some (v, H2)) : Enters P f ∧ ∀ m w vs, Rel m H w → VL m args vs → XC P kind f vs.toArray w (Post m H w v H2) := by
  simp only [dcallA, ob_some, bt_some] at h
  obtain ⟨k, hk, hlen, h⟩ := h
  simp only [fnK, ob_some, Option.some.injEq] at hk
  obtain ⟨fi, hfi, body, hbody, res, hres, rfl⟩ := hk
  have hmk := hF.fn f fi hfi
  unfold mkFI at hmk
  split at hmk
  rotate_left
  · cases hmk
  rename_i fn hfn
  split at hmk
  rotate_left
  · cases hmk
  rename_i c hc
  split at hmk
  · cases hmk
  rename_i hname
  simp only [Option.some.injEq] at hmk
  subst hmk
  refine ⟨⟨fn, hfn, by simpa using hname, by rw [hc]; rfl⟩, fun m w vs hr hl => ?_⟩
  exact body_ok hE hR hfn hc rfl hres (compK_ok hE hX hm c f fn.ntmps none body hbody _ ⟨fn.ntmps, none, none⟩ rfl rfl rfl rfl rfl) hr hl (Nat.le_of_ble_eq_true hlen) h
variable (hS : SumOk P E)
include hE hX hm hF hS in
theorem recA_ok : ∀ d, RecOk P (recA E d)
  | 0 => ⟨(fun _ _ _ _ _ h => by cases h), (fun _ _ _ _ _ h => by cases h), (fun _ _ _ _ _ h => by cases h)⟩
  | d + 1 => by
    have ih := recA_ok d
    refine ⟨fun f args H v H2 h => ?_, fun f args H v H2 h => dcall_ok hE hX hm hF ih .deferred h, fun l args H v H2 h m w vs i hr hl hi => round_ok (compK_ok hE hX hm) ih h hr hl hi⟩
    have h : oc (E.sums f args H) (dcallA E (recA E d) f args H) some = some (v, H2) := h
    cases hs : E.sums f args H with
    | none => rw [hs] at h; exact dcall_ok hE hX hm hF ih .normal h
    | some r =>
      rw [hs, oc_some] at h
      cases h
      exact hS f args H v H2 hs
end
end Go.Xq
