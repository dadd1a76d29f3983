/- A part of the proof of this seat's statement. Conditions: in each theorem. -/
import Derived.Test.YtnodjhgmghkikaaGreatW18
import Derived.Conc.CrowdBase
namespace Go.Xq
open Go.Conc Go.ConcN Go.RowKit Go.Conc.Lib Go.ConcR.Gen Go.ConcN.Gen
open Go.ConcR (KK wgBlock WgAt stA smA rd wr mk DC0)
abbrev GW (P : Program) (ty : TypeId) (Wg : Nat) := Goes P false (RL ty Wg) DC0
section
variable (P : Program) (ty : TypeId) (Wg : Nat)
def EnD4 (g : Goroutine) (w : World) : Prop :=
  g.status = .running ∧ mayWake P g = true ∧ (WgAt ty Wg w 0 0 → ∃ g', stepG P false g w = .go g' (w.setCell (smA Wg) (.int .u32 1)) (semEvents (smA Wg)) ∧ ∃ q, QuitsD P q 1 g')
def EnD3 (g : Goroutine) (w : World) : Prop :=
  g.status = .running ∧ (WgAt ty Wg w 1 0 → ∃ g', stepG P false g w = .go g' (w.setCell (stA Wg) (.int .u64 0)) #[wr (stA Wg)] ∧ ∃ m, GW P ty Wg (EnD4 P ty Wg) m g' (w.setCell (stA Wg) (.int .u64 0)))
def EnD2 (g : Goroutine) (w : World) : Prop :=
  g.status = .running ∧ (WgAt ty Wg w 1 0 → ∃ g', stepG P false g w = .go g' w #[rd (stA Wg)] ∧ ∃ m, GW P ty Wg (EnD3 P ty Wg) m g' w)
def EnD1 (g : Goroutine) (w : World) : Prop :=
  g.status = .running ∧ ∀ v wt : Nat, wt ≤ 1 → v < 2147483647 → WgAt ty Wg w ((v + 1) * KK + wt) 0 →
    ∃ g', stepG P false g w = .go g' (w.setCell (stA Wg) (.int .u64 (v * KK + wt))) #[rd (stA Wg), wr (stA Wg)] ∧
      ((v = 0 ∧ wt = 1) → ∃ m, GW P ty Wg (EnD2 P ty Wg) m g' (w.setCell (stA Wg) (.int .u64 (v * KK + wt)))) ∧ (¬ (v = 0 ∧ wt = 1) → ∃ q, QuitsD P q 1 g')
def EnK1 (g : Goroutine) (w : World) : Prop := g.status = .running ∧ ∃ g', stepG P false g w = .go g' w #[mk .disable] ∧ ∃ m, GW P ty Wg (EnD1 P ty Wg) m g' w
def EnR0 (g : Goroutine) (w : World) : Prop := g.status = .running ∧ ∃ g', stepG P false g w = .go g' w #[mk (.releaseMerge (stA Wg))] ∧ ∃ m, GW P ty Wg (EnK1 P ty Wg) m g' w
inductive LSit : Nat → Nat → Nat → Goroutine → World → Prop
  | r0 {m : Nat} {g : Goroutine} {w : World} : GW P ty Wg (EnR0 P ty Wg) m g w → LSit 7 m 0 g w
  | k1 {m : Nat} {g : Goroutine} {w : World} : GW P ty Wg (EnK1 P ty Wg) m g w → LSit 6 m 0 g w
  | d1 {m : Nat} {g : Goroutine} {w : World} : GW P ty Wg (EnD1 P ty Wg) m g w → LSit 5 m 1 g w
  | d2 {m : Nat} {g : Goroutine} {w : World} : GW P ty Wg (EnD2 P ty Wg) m g w → LSit 4 m 1 g w
  | d3 {m : Nat} {g : Goroutine} {w : World} : GW P ty Wg (EnD3 P ty Wg) m g w → LSit 3 m 1 g w
  | d4 {m : Nat} {g : Goroutine} {w : World} : GW P ty Wg (EnD4 P ty Wg) m g w → LSit 2 m 1 g w
  | quit {q d : Nat} {g : Goroutine} {w : World} : QuitsD P q d g → LSit 1 q d g w
end
section
variable {P : Program} {ty : TypeId} {Wg : Nat} {s m d : Nat} {g : Goroutine} {w w₁ : World}
theorem LSit.rely (h : LSit P ty Wg s m d g w) (hr : RL ty Wg w w₁) : LSit P ty Wg s m d g w₁ := by
  cases h with
  | r0 h => exact .r0 (Goes.rely RL.trans h hr)
  | k1 h => exact .k1 (Goes.rely RL.trans h hr)
  | d1 h => exact .d1 (Goes.rely RL.trans h hr)
  | d2 h => exact .d2 (Goes.rely RL.trans h hr)
  | d3 h => exact .d3 (Goes.rely RL.trans h hr)
  | d4 h => exact .d4 (Goes.rely RL.trans h hr)
  | quit h => exact .quit h
theorem LSit.running_of (h : LSit P ty Wg s m d g w) (hs : s ≠ 1) : g.status = .running := by
  cases h with
  | r0 h => exact Goes.running (fun _ _ x => x.1) w (RL.refl w) h
  | k1 h => exact Goes.running (fun _ _ x => x.1) w (RL.refl w) h
  | d1 h => exact Goes.running (fun _ _ x => x.1) w (RL.refl w) h
  | d2 h => exact Goes.running (fun _ _ x => x.1) w (RL.refl w) h
  | d3 h => exact Goes.running (fun _ _ x => x.1) w (RL.refl w) h
  | d4 h => exact Goes.running (fun _ _ x => x.1) w (RL.refl w) h
  | quit _ => exact absurd rfl hs
theorem LSit.status (h : LSit P ty Wg s m d g w) : g.status = .running ∨ g.status = .finished := by
  by_cases hs : s = 1
  · subst hs
    cases h with
    | quit h => exact h.status
  · exact .inl (h.running_of hs)
end
section
variable {L : WgLink} {Wg : Nat} {b₀ : Frame} {a₀ : Act} {ops₀ : Array Oper} {i₀ : Nat} {rest₀ : List Nat} {k₀ : List Item} {cs : List Frame} {qt : Nat}
set_option maxRecDepth 100000 in
set_option maxHeartbeats 8000000 in
theorem addNegW {P : Program} (H : WgLib P L) (hT : QuitsD P qt 0 (Conc.G (b₀.at (a₀.put ((ops₀[i₀]?).bind (·.dst)) (.tuple #[])) (.inRegion ops₀ rest₀ :: k₀)) cs)) (w : World) (hF : WgLive L.tWg Wg w) :
    Goes P false (RL L.tWg Wg) DC0 (EnR0 P L.tWg Wg) 20 (Conc.G ((base L.add).at ⟨#[.pointer (some ⟨Wg, 0, none⟩), .int .i64 (-1), undef, undef, undef, undef, undef, undef, undef, undef, undef, undef, undef, undef, undef, undef, undef, undef, undef, undef, undef, undef, undef, undef, undef, undef, undef, undef, undef, undef, undef, undef, undef, undef, undef, undef, undef, undef, undef, undef, undef, undef, undef, undef, undef, undef, undef, undef, undef, undef, undef, undef, undef, undef, undef, undef, undef, undef, undef, undef, undef, undef, undef, undef, undef, undef, undef, undef, undef, undef, undef, undef, undef, undef, undef, undef, undef, undef, undef, undef, undef, undef, undef, undef, undef, undef, undef, undef, undef, undef, undef, undef, undef, undef, undef, undef, undef, undef, undef, undef, undef, undef, undef, undef, undef, undef, undef, undef, undef, undef, undef, undef, undef, undef, undef, undef, undef], []⟩ [.code (body_add L)]) (b₀.at a₀ (.inRegion ops₀ (i₀ :: rest₀) :: k₀) :: cs)) w := by
  lib_facts
  simp only [body_add, addFn, Option.getD_some]
  u_c stepG_seq rl_rely hF
  u_cnd true rl_rely hF
  u_c stepG_seq rl_rely hF
  u_c stepG_seq rl_rely hF
  u_reg rl_rely hF
  u_op rl_rely hF
  u_op rl_rely hF
  u_c stepG_region_end rl_rely hF
  u_cnd true rl_rely hF
  u_reg rl_rely hF
  u_op rl_rely hF
  u_conv H.underlying_tWgP H.room_tWg (WgLive.cell0 hF).choose_spec rl_rely hF
  refine Goes.stop (fun w1 h1 => ?_)
  replace hF := rl_rely hF h1
  clear h1
  refine ⟨rfl, _, stepG_markAt .releaseMerge (by simp) rfl rfl (by k_ne) rfl H.f_relMerge (x_relMerge_n L) (x_relMerge_b L) (x_relMerge_x L) (x_relMerge_f L) (by simp [Act.eval, stA]), 10, ?_⟩
  walk_nrm
  u_c stepG_region_end rl_rely hF
  u_c stepG_seq rl_rely hF
  u_reg rl_rely hF
  refine Goes.stop (fun w2 h2 => ?_)
  replace hF := rl_rely hF h2
  clear h2
  refine ⟨rfl, _, stepG_mark0 .disable (by simp) rfl rfl (by k_ne) rfl H.f_disable (x_disable_n L) (x_disable_b L) (x_disable_x L) (x_disable_f L), 50, ?_⟩
  walk_nrm
  u_c stepG_region_end rl_rely hF
  u_reg rl_rely hF
  u_defer rl_rely hF
  u_c stepG_region_end rl_rely hF
  u_c stepG_seq rl_rely hF
  u_reg rl_rely hF
  u_op rl_rely hF
  u_c stepG_region_end rl_rely hF
  u_c stepG_seq rl_rely hF
  u_c stepG_seq rl_rely hF
  u_reg rl_rely hF
  u_bub rl_rely hF
  u_c stepG_region_end rl_rely hF
  u_cnd false rl_rely hF
  u_c stepG_skip rl_rely hF
  u_c stepG_seq rl_rely hF
  u_reg rl_rely hF
  u_op rl_rely hF
  u_op rl_rely hF
  u_op rl_rely hF
  u_op rl_rely hF
  u_op rl_rely hF
  u_op rl_rely hF
  u_call H.f_uAdd (nm_uAdd L) uAddFn rl_rely hF
  u_c stepG_seq rl_rely hF
  u_reg rl_rely hF
  u_op rl_rely hF
  u_c stepG_region_end rl_rely hF
  u_c stepG_seq rl_rely hF
  u_reg rl_rely hF
  u_op rl_rely hF
  u_op rl_rely hF
  u_op rl_rely hF
  u_op rl_rely hF
  refine Goes.stop (fun w3 h3 => ?_)
  clear h3 hF
  refine ⟨rfl, fun v wt hwt hv hw => ?_⟩
  have e0 : IntKind.u64.wrap (KK + 18446744069414584320) = 0 := by decide
  have e1 : IntKind.u64.wrap (KK + 1 + 18446744069414584320) = 1 := by decide
  rcases Nat.eq_zero_or_pos v with rfl | hvp <;> (obtain rfl | rfl : wt = 0 ∨ wt = 1 := by omega)
  · replace hw : WgAt L.tWg Wg w3 KK 0 := by simpa using hw
    have z : ((0 : Nat) : Int) * KK + ((0 : Nat) : Int) = 0 := by simp
    rw [z]
    refine ⟨_, (stepG_add_atomic rfl rfl (by k_ne) rfl H.f_addU64 (x_addU64_n L) (x_addU64_b L) (x_addU64_x L) .u64 (x_addU64_f L) rfl rfl hw.cellSt (hw.thaw 0)).trans (by rw [e0]; rfl), fun hl => absurd hl.2 (by decide), fun _ => ⟨qt + 89, ?_⟩⟩
    clear hw
    walk_nrm
    q_val (.int .u64 0)
    q_c stepG_region_end
    q_c stepG_ret'
    q_leave1 H.f_uAdd
    q_val (.int .u64 0)
    q_c stepG_region_end
    q_c stepG_seq
    q_c stepG_seq
    q_reg
    q_val (.int .u64 0)
    q_val (.int .u64 0)
    q_val (.bool false)
    q_val (.bool false)
    q_skip
    q_skip
    q_val (.bool false)
    q_c stepG_region_end
    q_cond false
    q_c stepG_skip
    q_c stepG_seq
    q_reg
    q_val (.int .u64 0)
    q_val (.int .u64 0)
    q_val (.int .i32 0)
    q_val (.int .i32 0)
    q_c stepG_region_end
    q_c stepG_seq
    q_reg
    q_val (.int .u64 0)
    q_val (.int .u64 0)
    q_val (.int .u32 0)
    q_val (.int .u32 0)
    q_c stepG_region_end
    q_c stepG_seq
    q_c stepG_seq
    q_reg
    q_val (.bool true)
    q_val (.int .i64 (-1))
    q_val (.bool false)
    q_val (.bool false)
    q_val (.bool false)
    q_skip
    q_skip
    q_skip
    q_skip
    q_val (.bool false)
    q_c stepG_region_end
    q_cond false
    q_c stepG_skip
    q_c stepG_seq
    q_c stepG_seq
    q_reg
    q_val (.int .i32 0)
    q_val (.bool false)
    q_c stepG_region_end
    q_cond false
    q_c stepG_skip
    q_c stepG_seq
    q_c stepG_seq
    q_reg
    q_val (.int .u32 0)
    q_val (.bool false)
    q_val (.bool false)
    q_skip
    q_skip
    q_val (.bool false)
    q_val (.bool false)
    q_skip
    q_skip
    q_skip
    q_skip
    q_val (.bool false)
    q_c stepG_region_end
    q_cond false
    q_c stepG_skip
    q_c stepG_seq
    q_c stepG_seq
    q_reg
    q_val (.int .i32 0)
    q_val (.bool false)
    q_val (.bool false)
    q_val (.int .u32 0)
    q_val (.bool true)
    q_val (.bool true)
    q_c stepG_region_end
    q_cond true
    q_c stepG_ret'
    q_enable
    q_leave0 H.f_add
    exact hT
  · replace hw : WgAt L.tWg Wg w3 (KK + 1) 0 := by simpa using hw
    have z : ((0 : Nat) : Int) * KK + ((1 : Nat) : Int) = 1 := by simp
    rw [z]
    refine ⟨_, (stepG_add_atomic rfl rfl (by k_ne) rfl H.f_addU64 (x_addU64_n L) (x_addU64_b L) (x_addU64_x L) .u64 (x_addU64_f L) rfl rfl hw.cellSt (hw.thaw 0)).trans (by rw [e1]; rfl), fun _ => ⟨120, ?_⟩, fun hl => absurd ⟨rfl, rfl⟩ hl⟩
    have hF : WgLive L.tWg Wg (w3.setCell (stA Wg) (.int .u64 1)) := ⟨_, _, hw.setSt 1⟩
    clear hw
    walk_nrm
    u_op rl_rely hF
    u_c stepG_region_end rl_rely hF
    u_c stepG_ret' rl_rely hF
    u_leave1 H.f_uAdd rl_rely hF
    u_op rl_rely hF
    u_c stepG_region_end rl_rely hF
    u_c stepG_seq rl_rely hF
    u_c stepG_seq rl_rely hF
    u_reg rl_rely hF
    u_op rl_rely hF
    u_op rl_rely hF
    u_op rl_rely hF
    u_op rl_rely hF
    u_skip rl_rely hF
    u_skip rl_rely hF
    u_op rl_rely hF
    u_c stepG_region_end rl_rely hF
    u_cnd false rl_rely hF
    u_c stepG_skip rl_rely hF
    u_c stepG_seq rl_rely hF
    u_reg rl_rely hF
    u_op rl_rely hF
    u_op rl_rely hF
    u_op rl_rely hF
    u_op rl_rely hF
    u_c stepG_region_end rl_rely hF
    u_c stepG_seq rl_rely hF
    u_reg rl_rely hF
    u_op rl_rely hF
    u_op rl_rely hF
    u_op rl_rely hF
    u_op rl_rely hF
    u_c stepG_region_end rl_rely hF
    u_c stepG_seq rl_rely hF
    u_c stepG_seq rl_rely hF
    u_reg rl_rely hF
    u_op rl_rely hF
    u_op rl_rely hF
    u_op rl_rely hF
    u_op rl_rely hF
    u_op rl_rely hF
    u_skip rl_rely hF
    u_skip rl_rely hF
    u_skip rl_rely hF
    u_skip rl_rely hF
    u_op rl_rely hF
    u_c stepG_region_end rl_rely hF
    u_cnd false rl_rely hF
    u_c stepG_skip rl_rely hF
    u_c stepG_seq rl_rely hF
    u_c stepG_seq rl_rely hF
    u_reg rl_rely hF
    u_op rl_rely hF
    u_op rl_rely hF
    u_c stepG_region_end rl_rely hF
    u_cnd false rl_rely hF
    u_c stepG_skip rl_rely hF
    u_c stepG_seq rl_rely hF
    u_c stepG_seq rl_rely hF
    u_reg rl_rely hF
    u_op rl_rely hF
    u_op rl_rely hF
    u_op rl_rely hF
    u_op rl_rely hF
    u_op rl_rely hF
    u_op rl_rely hF
    u_op rl_rely hF
    u_skip rl_rely hF
    u_skip rl_rely hF
    u_skip rl_rely hF
    u_skip rl_rely hF
    u_op rl_rely hF
    u_c stepG_region_end rl_rely hF
    u_cnd false rl_rely hF
    u_c stepG_skip rl_rely hF
    u_c stepG_seq rl_rely hF
    u_c stepG_seq rl_rely hF
    u_reg rl_rely hF
    u_op rl_rely hF
    u_op rl_rely hF
    u_op rl_rely hF
    u_op rl_rely hF
    u_op rl_rely hF
    u_op rl_rely hF
    u_c stepG_region_end rl_rely hF
    u_cnd false rl_rely hF
    u_c stepG_skip rl_rely hF
    u_c stepG_seq rl_rely hF
    u_c stepG_seq rl_rely hF
    u_reg rl_rely hF
    u_op rl_rely hF
    u_op rl_rely hF
    u_op rl_rely hF
    u_call H.f_uLoad (nm_uLoad L) uLoadFn rl_rely hF
    u_c stepG_seq rl_rely hF
    u_reg rl_rely hF
    u_op rl_rely hF
    u_c stepG_region_end rl_rely hF
    u_c stepG_seq rl_rely hF
    u_reg rl_rely hF
    u_op rl_rely hF
    u_op rl_rely hF
    u_op rl_rely hF
    refine Goes.stop (fun w4 h4 => ?_)
    clear h4 hF
    refine ⟨rfl, fun hw => ⟨_, stepG_load_atomic rfl rfl (by k_ne) rfl H.f_loadU64 (x_loadU64_n L) (x_loadU64_b L) (x_loadU64_x L) .u64 (x_loadU64_f L) rfl hw.cellSt, 40, ?_⟩⟩
    have hF : WgLive L.tWg Wg w4 := ⟨_, _, hw⟩
    clear hw
    walk_nrm
    u_op rl_rely hF
    u_c stepG_region_end rl_rely hF
    u_c stepG_ret' rl_rely hF
    u_leave1 H.f_uLoad rl_rely hF
    u_op rl_rely hF
    u_op rl_rely hF
    u_c stepG_region_end rl_rely hF
    u_cnd false rl_rely hF
    u_c stepG_skip rl_rely hF
    u_c stepG_seq rl_rely hF
    u_reg rl_rely hF
    u_op rl_rely hF
    u_op rl_rely hF
    u_op rl_rely hF
    u_call H.f_uStore (nm_uStore L) uStoreFn rl_rely hF
    u_reg rl_rely hF
    u_op rl_rely hF
    u_op rl_rely hF
    u_op rl_rely hF
    u_op rl_rely hF
    refine Goes.stop (fun w5 h5 => ?_)
    clear h5 hF
    refine ⟨rfl, fun hw => ⟨_, stepG_store_atomic rfl rfl (by k_ne) rfl H.f_storeU64 (x_storeU64_n L) (x_storeU64_b L) (x_storeU64_x L) (x_storeU64_f L) rfl rfl hw.cellSt (hw.thaw 0), 50, ?_⟩⟩
    have hF : WgLive L.tWg Wg (w5.setCell (stA Wg) (.int .u64 0)) := ⟨_, _, hw.setSt 0⟩
    clear hw
    walk_nrm
    u_c stepG_region_end rl_rely hF
    u_c stepG_end rl_rely hF
    u_leave0 H.f_uStore rl_rely hF
    u_c stepG_region_end rl_rely hF
    u_c stepG_seq rl_rely hF
    u_c stepG_seq rl_rely hF
    u_reg rl_rely hF
    u_op rl_rely hF
    u_c stepG_region_end rl_rely hF
    u_cnd false rl_rely hF
    u_c stepG_skip rl_rely hF
    u_c stepG_block rl_rely hF
    u_c stepG_loop rl_rely hF
    u_c stepG_seq rl_rely hF
    u_c stepG_seq rl_rely hF
    u_reg rl_rely hF
    u_op rl_rely hF
    u_op rl_rely hF
    u_c stepG_region_end rl_rely hF
    u_cnd true rl_rely hF
    u_c stepG_skip rl_rely hF
    u_c stepG_seq rl_rely hF
    u_c stepG_block rl_rely hF
    u_reg rl_rely hF
    u_op rl_rely hF
    u_op rl_rely hF
    u_op rl_rely hF
    refine Goes.stop (fun w6 h6 => ?_)
    clear h6 hF
    refine ⟨rfl, mayWake_entry rfl rfl H.f_semrelease (x_semrelease_b L), fun hw => ⟨_, (stepG_semrelease rfl rfl (by k_ne) rfl H.f_semrelease (x_semrelease_n L) (x_semrelease_b L) (x_semrelease_x L) (x_semrelease_f L) (by simp [Act.eval, smA]) hw.cellSm (hw.thaw 1)).trans (by rfl), qt + 19, ?_⟩⟩
    clear hw
    walk_nrm
    q_c stepG_region_end
    q_c stepG_inBlock
    q_reg
    q_val (.int .u32 1)
    q_val (.int .u32 0)
    q_val (.int .u32 0)
    q_c stepG_region_end
    q_c stepG_inLoop
    q_c stepG_seq
    q_c stepG_seq
    q_reg
    q_val (.int .u32 0)
    q_val (.bool false)
    q_c stepG_region_end
    q_cond false
    q_exit
    q_c stepG_end
    q_enable
    q_leave0 H.f_add
    exact hT
  · replace hw : WgAt L.tWg Wg w3 (((v : Nat) + 1) * KK + 0) 0 := by simpa using hw
    have z : ((v : Nat) : Int) * KK + ((0 : Nat) : Int) = (v : Int) * KK + 0 := by simp
    rw [z]
    have hv0 : 0 < v := by omega
    have eS : IntKind.u64.wrap (((v : Nat) + 1) * KK + 0 + 18446744069414584320) = (v : Int) * KK + 0 := by rw [IntKind.wrap_u64]; simp only [KK]; omega
    obtain ⟨S, hS⟩ : ∃ S : Int, S = (v : Int) * KK + 0 := ⟨_, rfl⟩
    rw [← hS] at eS ⊢
    have a1 : S / 4294967296 = (v : Int) := by rw [hS]; simp only [KK]; omega
    have a2 : 0 ≤ S ∧ S < 9223372036854775808 := by rw [hS]; simp only [KK]; omega
    have b1 : Go.bits .and .u64 S 2147483648 = 0 := by rw [hS]; have := st_flag v 0 (by omega) (by omega); simpa [KK] using this
    have b2 : Go.bits .and .u64 S 2147483647 = 0 := by rw [hS]; have := st_waiters v 0 (by omega) (by omega); simpa [KK] using this
    clear hS z
    refine ⟨_, (stepG_add_atomic rfl rfl (by k_ne) rfl H.f_addU64 (x_addU64_n L) (x_addU64_b L) (x_addU64_x L) .u64 (x_addU64_f L) rfl rfl hw.cellSt (hw.thaw 0)).trans (by rw [eS]; rfl), fun hl => absurd hl.1 (by omega), fun _ => ⟨qt + 89, ?_⟩⟩
    clear hw
    walk_nrm
    q_vn (.int .u64 S)
    q_c stepG_region_end
    q_c stepG_ret'
    q_leave1 H.f_uAdd
    q_vn (.int .u64 S)
    q_c stepG_region_end
    q_c stepG_seq
    q_c stepG_seq
    q_reg
    q_vn (.int .u64 S)
    q_vn (.int .u64 0)
    q_vn (.bool false)
    q_vn (.bool false)
    q_skip
    q_skip
    q_vn (.bool false)
    q_c stepG_region_end
    q_cond false
    q_c stepG_skip
    q_c stepG_seq
    q_reg
    q_vn (.int .u64 S)
    q_vn (.int .u64 (v:Int))
    q_vn (.int .i32 (v:Int))
    q_vn (.int .i32 (v:Int))
    q_c stepG_region_end
    q_c stepG_seq
    q_reg
    q_vn (.int .u64 S)
    q_vn (.int .u64 0)
    q_vn (.int .u32 0)
    q_vn (.int .u32 0)
    q_c stepG_region_end
    q_c stepG_seq
    q_c stepG_seq
    q_reg
    q_vn (.bool true)
    q_vn (.int .i64 (-1))
    q_vn (.bool false)
    q_vn (.bool false)
    q_vn (.bool false)
    q_skip
    q_skip
    q_skip
    q_skip
    q_vn (.bool false)
    q_c stepG_region_end
    q_cond false
    q_c stepG_skip
    q_c stepG_seq
    q_c stepG_seq
    q_reg
    q_vn (.int .i32 (v:Int))
    q_vn (.bool false)
    q_c stepG_region_end
    q_cond false
    q_c stepG_skip
    q_c stepG_seq
    q_c stepG_seq
    q_reg
    q_vn (.int .u32 0)
    q_vn (.bool false)
    q_vn (.bool false)
    q_skip
    q_skip
    q_vn (.bool false)
    q_vn (.bool false)
    q_skip
    q_skip
    q_skip
    q_skip
    q_vn (.bool false)
    q_c stepG_region_end
    q_cond false
    q_c stepG_skip
    q_c stepG_seq
    q_c stepG_seq
    q_reg
    q_vn (.int .i32 (v:Int))
    q_vn (.bool true)
    q_vn (.bool true)
    q_skip
    q_skip
    q_vn (.bool true)
    q_c stepG_region_end
    q_cond true
    q_c stepG_ret'
    q_enable
    q_leave0 H.f_add
    exact hT
  · replace hw : WgAt L.tWg Wg w3 (((v : Nat) + 1) * KK + 1) 0 := by simpa using hw
    have z : ((v : Nat) : Int) * KK + ((1 : Nat) : Int) = (v : Int) * KK + 1 := by simp
    rw [z]
    have hv0 : 0 < v := by omega
    have eS : IntKind.u64.wrap (((v : Nat) + 1) * KK + 1 + 18446744069414584320) = (v : Int) * KK + 1 := by rw [IntKind.wrap_u64]; simp only [KK]; omega
    obtain ⟨S, hS⟩ : ∃ S : Int, S = (v : Int) * KK + 1 := ⟨_, rfl⟩
    rw [← hS] at eS ⊢
    have a1 : S / 4294967296 = (v : Int) := by rw [hS]; simp only [KK]; omega
    have a2 : 0 ≤ S ∧ S < 9223372036854775808 := by rw [hS]; simp only [KK]; omega
    have b1 : Go.bits .and .u64 S 2147483648 = 0 := by rw [hS]; have := st_flag v 1 (by omega) (by omega); simpa [KK] using this
    have b2 : Go.bits .and .u64 S 2147483647 = 1 := by rw [hS]; have := st_waiters v 1 (by omega) (by omega); simpa [KK] using this
    clear hS z
    refine ⟨_, (stepG_add_atomic rfl rfl (by k_ne) rfl H.f_addU64 (x_addU64_n L) (x_addU64_b L) (x_addU64_x L) .u64 (x_addU64_f L) rfl rfl hw.cellSt (hw.thaw 0)).trans (by rw [eS]; rfl), fun hl => absurd hl.1 (by omega), fun _ => ⟨qt + 89, ?_⟩⟩
    clear hw
    walk_nrm
    q_vn (.int .u64 S)
    q_c stepG_region_end
    q_c stepG_ret'
    q_leave1 H.f_uAdd
    q_vn (.int .u64 S)
    q_c stepG_region_end
    q_c stepG_seq
    q_c stepG_seq
    q_reg
    q_vn (.int .u64 S)
    q_vn (.int .u64 0)
    q_vn (.bool false)
    q_vn (.bool false)
    q_skip
    q_skip
    q_vn (.bool false)
    q_c stepG_region_end
    q_cond false
    q_c stepG_skip
    q_c stepG_seq
    q_reg
    q_vn (.int .u64 S)
    q_vn (.int .u64 (v:Int))
    q_vn (.int .i32 (v:Int))
    q_vn (.int .i32 (v:Int))
    q_c stepG_region_end
    q_c stepG_seq
    q_reg
    q_vn (.int .u64 S)
    q_vn (.int .u64 1)
    q_vn (.int .u32 1)
    q_vn (.int .u32 1)
    q_c stepG_region_end
    q_c stepG_seq
    q_c stepG_seq
    q_reg
    q_vn (.bool true)
    q_vn (.int .i64 (-1))
    q_vn (.bool false)
    q_vn (.bool false)
    q_vn (.bool false)
    q_skip
    q_skip
    q_skip
    q_skip
    q_vn (.bool false)
    q_c stepG_region_end
    q_cond false
    q_c stepG_skip
    q_c stepG_seq
    q_c stepG_seq
    q_reg
    q_vn (.int .i32 (v:Int))
    q_vn (.bool false)
    q_c stepG_region_end
    q_cond false
    q_c stepG_skip
    q_c stepG_seq
    q_c stepG_seq
    q_reg
    q_vn (.int .u32 1)
    q_vn (.bool true)
    q_vn (.bool true)
    q_vn (.int .i64 (-1))
    q_vn (.bool false)
    q_vn (.bool false)
    q_vn (.bool false)
    q_skip
    q_skip
    q_skip
    q_skip
    q_vn (.bool false)
    q_c stepG_region_end
    q_cond false
    q_c stepG_skip
    q_c stepG_seq
    q_c stepG_seq
    q_reg
    q_vn (.int .i32 (v:Int))
    q_vn (.bool true)
    q_vn (.bool true)
    q_skip
    q_skip
    q_vn (.bool true)
    q_c stepG_region_end
    q_cond true
    q_c stepG_ret'
    q_enable
    q_leave0 H.f_add
    exact hT
set_option maxRecDepth 100000 in
theorem doneW {P : Program} (H : WgLib P L) {c : Frame} (hcm : c.mode = .returning) (hT : QuitsD P qt 0 (Conc.G c cs)) (w : World) (hF : WgLive L.tWg Wg w) :
    Goes P false (RL L.tWg Wg) DC0 (EnR0 P L.tWg Wg) 23 (Conc.G ((baseD L.done).at ⟨#[.pointer (some ⟨Wg, 0, none⟩), undef, undef, undef], []⟩ [.code (body_done L)]) (c :: cs)) w := by
  lib_facts
  have hA := @addNegW L Wg
  simp only [body_done, body_add, doneFn, addFn, Option.getD_some] at hA ⊢
  u_reg rl_rely hF
  u_op rl_rely hF
  u_in rl_rely hF
  refine goes_call rfl rfl (by k_ne) rfl H.f_add (nm_add L) rfl ⟨by u_nil, ?_⟩
  walk_nrmf addFn
  refine hA (qt := qt + 3) H ?_ _ hF
  q_c stepG_region_end
  q_c stepG_end
  exact QuitsD.leaveD rfl rfl H.f_done rfl hcm hT
end
end Go.Xq
namespace Go.Xq
open Go.Conc (Perm Knows touchAt Deaf knows_own noRace_append touch_of touchAt_of getElem?_append_cases getElem?_append_old lt_size_of_getElem? act?_of act?_old hb_po Before)
open Go.ConcN (PermW fork_knows RelBy)
inductive Ow where
  | of (g : Nat)
  | shr
  | nobody
def WgL (Wg : Nat) (l : Loc) : Prop := ∃ a, l = .cell a ∧ a.block = Wg
def AtWork (k0 j g : Nat) : Prop := g = 0 ∨ ∃ i, i < j ∧ g = k0 + i
structure Tri (SB : Nat → Prop) (Wg k0 j B : Nat) (ow : Loc → Ow) (rel : Nat → Option Nat) (t : Trace) : Prop where
  clean : ∀ said, ¬ Race said t
  low : ∀ op ∈ t, op.act.low B
  own : ∀ l g, ow l = .of g → Perm t g l
  shr : ∀ l, ow l = .shr → ∀ g, AtWork k0 j g → PermW t g l
  wg : ∀ x a, touchAt t x = some a → WgL Wg a.loc → a.kind = .plain → ∀ g, AtWork k0 j g → Knows t g x
  wgS : ∀ x a, touchAt t x = some a → WgL Wg a.loc → a.kind = .said → Knows t 0 x
  known : ∀ x a, touchAt t x = some a → a.loc.isMemory = true → Knows t 0 x ∨ (ShunB SB a.loc ∧ a.kind = .atomic) ∨ ∃ i, i < j ∧ t.g? x = some (k0 + i) ∧ ∀ r, rel i = some r → x ≤ r
  over : ∀ x g, t.g? x = some g → g ≠ 0 → t.counts x → (∃ y, t.g? y = some 0 ∧ HappensBefore t x y) ∨ ∃ i, i < j ∧ g = k0 + i
  gs : ∀ (x : Nat) (op : MemOp), t[x]? = some op → op.g < k0 + j
  norel : ∀ x a, t.act? x ≠ some (.mark (.release a))
  rels : ∀ i r, rel i = some r → i < j ∧ RelBy (Go.ConcR.stA Wg) t (k0 + i) r
def FreshL (B : Nat) (l : Loc) : Prop := ∀ b, (l = .obj b ∨ ∃ a : Addr, l = .cell a ∧ a.block = b) → B ≤ b
def OpOk (SB : Nat → Prop) (Wg B g : Nat) (ow : Loc → Ow) (released : Bool) (op : MemOp) : Prop :=
  op.g = g ∧ (∀ a, op.act ≠ .mark (.release a)) ∧ ∀ x, op.act.touch? = some x →
    (WgL Wg x.loc ∧ SB Wg ∧ x.kind ≠ .plain ∧ (x.kind = .said → g = 0)) ∨
      (released = false ∧ ¬ WgL Wg x.loc ∧ (ow x.loc = .of g ∨ (ow x.loc = .shr ∧ x.write = false) ∨ FreshL B x.loc))
section
variable {SB : Nat → Prop} {Wg k0 j B B' g : Nat} {ow ow' : Loc → Ow} {rel : Nat → Option Nat} {t u : Trace}
theorem fresh_untouched (low : ∀ op ∈ t, op.act.low B) {x : Nat} {a : Touch} (ha : touchAt t x = some a) (hm : a.loc.isMemory = true) (hf : FreshL B a.loc) : False := by
  obtain ⟨op, ho, hoa⟩ := touch_of ha
  have hl := low op (Array.mem_of_getElem? ho)
  have low_of : ∀ {m : MemAct} {y : Touch}, m.low B → m.touch? = some y → (∀ ad, y.loc = .cell ad → ad.block < B) ∧ (∀ r, y.loc = .obj r → r < B) := by
    intro m y hm hy
    cases m with
    | access e =>
      simp only [MemAct.touch?, Option.some.injEq] at hy
      subst hy
      obtain ⟨l, wr, sy⟩ := e
      cases l <;> exact ⟨fun _ h => by cases h <;> exact hm, fun _ h => by cases h <;> exact hm⟩
    | mark mm =>
      cases mm <;> simp only [MemAct.touch?, Option.some.injEq, reduceCtorEq] at hy <;> subst hy <;>
        exact ⟨fun _ h => by cases h; exact hm, fun _ h => by cases h⟩
    | _ => simp [MemAct.touch?] at hy
  obtain ⟨h1, h2⟩ := low_of hl hoa
  cases hl : a.loc with
  | cell ad => have := hf ad.block (.inr ⟨ad, hl, rfl⟩); have := h1 ad hl; omega
  | obj r => have := hf r (.inl hl); have := h2 r hl; omega
  | _ => rw [hl] at hm; cases hm
theorem Tri.app {rl : Bool} (h : Tri SB Wg k0 j B ow rel t) (hB : B ≤ B') (hg : AtWork k0 j g) (hrl : ∀ i r, g = k0 + i → rel i = some r → rl = true) (hu : ∀ op ∈ u, OpOk SB Wg B g ow rl op) (hul : ∀ op ∈ u, op.act.low B')
    (hcnt : rl = true → ∀ x, t.size ≤ x → (t ++ u).g? x = some g → ¬ (t ++ u).counts x) (hat : rl = true → ∀ op ∈ u, ∀ x, op.act.touch? = some x → x.kind = .atomic)
    (how : ∀ l o, ow' l = o → o ≠ .nobody → ow l = o ∨ (o = .of g ∧ l.isMemory = true ∧ FreshL B l)) (hfr : ∀ l, l.isMemory = true → FreshL B l → ow l = .nobody) (hwn : ∀ l, WgL Wg l → ow l = .nobody) (hnm : ∀ l, l.isMemory = false → ow l = .nobody) (hk0 : 0 < k0) :
    Tri SB Wg k0 j B' ow' rel (t ++ u) := by
  have hug : ∀ op ∈ u, op.g = g := fun op hop => (hu op hop).1
  -- a touch of what is owned, or shared, already
  have old : ∀ op ∈ u, ∀ b, op.act.touch? = some b → ow b.loc ≠ .nobody → ow b.loc = .of g ∨ (ow b.loc = .shr ∧ b.write = false) := by
    intro op hop b hb hne
    rcases (hu op hop).2.2 b hb with ⟨hw, _⟩ | ⟨_, _, hc | hc | hf⟩
    · exact absurd (hwn _ hw) hne
    · exact .inl hc
    · exact .inr hc
    · cases hm : b.loc.isMemory with
      | false => exact absurd (hnm _ hm) hne
      | true => exact absurd (hfr _ hm hf) hne
  refine ⟨fun said => ?_, fun op hop => ?_, fun l g' hl => ?_, fun l hl g' hg' => ?_, fun x a ha hw hk g' hg' => ?_, fun x a ha hw hk => ?_, fun x a ha hm => ?_, fun x g' hx hne hc => ?_, fun x op ho => ?_, fun x a hx => ?_, fun i r hr => ?_⟩
  · refine noRace_append (h.clean said) hug fun x a ha op hop b hb hc => ?_
    obtain ⟨hcl, hcm, hcw, hck⟩ := hc
    rcases (hu op hop).2.2 b hb with ⟨hw, _, hnp, hsd⟩ | ⟨hrf, hnw, hcase⟩
    · rcases hck with hck | hck | ⟨_, hck1, hck2⟩
      · exact h.wg x a ha (hcl ▸ hw) hck g hg
      · exact absurd hck hnp
      · rw [hsd hck2]; exact h.wgS x a ha (hcl ▸ hw) hck1
    · rcases hcase with ho | ⟨ho, hbw⟩ | hf
      · exact h.own _ g ho x a ha hcl
      · refine h.shr _ ho g hg x a ha hcl ?_
        rcases hcw with hcw | hcw
        · exact hcw
        · rw [hbw] at hcw; cases hcw
      · exact (fresh_untouched h.low ha hcm (by rw [hcl]; exact hf)).elim
  · rcases Array.mem_append.1 hop with ho | ho
    · exact MemAct.low_mono hB (h.low op ho)
    · exact hul op ho
  · rcases how l _ hl (by simp) with ho | ⟨ho, hm, hf⟩
    · refine (h.own l g' ho).app fun op hop b hb e => ?_
      rcases old op hop b hb (by rw [e, ho]; simp) with hc | ⟨hc, _⟩
      · rw [e, ho] at hc; cases hc; exact hug op hop
      · rw [e, ho] at hc; cases hc
    · cases ho
      intro x a ha e
      obtain ⟨op, hop, hoa⟩ := touch_of ha
      rcases getElem?_append_cases hop with ⟨_, ho'⟩ | ⟨_, hou⟩
      · exact (fresh_untouched h.low (touchAt_of ho' ▸ hoa) (e ▸ hm) (by rw [e]; exact hf)).elim
      · have := knows_own hop
        rwa [hug op hou] at this
  · rcases how l _ hl (by simp) with ho | ⟨ho, _⟩
    · refine (h.shr l ho g' hg').app fun op hop b hb e hw => ?_
      rcases old op hop b hb (by rw [e, ho]; simp) with hc | ⟨_, hc⟩
      · rw [e, ho] at hc; cases hc
      · rw [hw] at hc; cases hc
    · cases ho
  · obtain ⟨op, hop, hoa⟩ := touch_of ha
    rcases getElem?_append_cases hop with ⟨_, ho'⟩ | ⟨_, hou⟩
    · exact (h.wg x a (touchAt_of ho' ▸ hoa) hw hk g' hg').app u
    · rcases (hu op hou).2.2 a hoa with ⟨_, _, hnp, _⟩ | ⟨_, hnw, _⟩
      · exact absurd hk hnp
      · exact absurd hw hnw
  · obtain ⟨op, hop, hoa⟩ := touch_of ha
    rcases getElem?_append_cases hop with ⟨_, ho'⟩ | ⟨_, hou⟩
    · exact (h.wgS x a (touchAt_of ho' ▸ hoa) hw hk).app u
    · rcases (hu op hou).2.2 a hoa with ⟨_, _, _, hsd⟩ | ⟨_, hnw, _⟩
      · have := knows_own hop
        rw [hug op hou, hsd hk] at this
        exact this
      · exact absurd hw hnw
  · obtain ⟨op, hop, hoa⟩ := touch_of ha
    rcases getElem?_append_cases hop with ⟨hi, ho'⟩ | ⟨hi, hou⟩
    · rcases h.known x a (touchAt_of ho' ▸ hoa) hm with h1 | h1 | ⟨i, h1, h2, h3⟩
      · exact .inl (h1.app u)
      · exact .inr (.inl h1)
      · exact .inr (.inr ⟨i, h1, by rw [Conc.g?_old hi]; exact h2, h3⟩)
    · rcases hg with rfl | ⟨i, hi2, rfl⟩
      · have := knows_own hop
        rw [hug op hou] at this
        exact .inl this
      · cases hrv : rel i with
        | none => exact .inr (.inr ⟨i, hi2, by simp [Trace.g?, hop, hug op hou], fun r hr => by rw [hrv] at hr; cases hr⟩)
        | some r =>
          have hrt := hrl i r rfl hrv
          rcases (hu op hou).2.2 a hoa with ⟨hw, hsb, _⟩ | ⟨hrf, _⟩
          · obtain ⟨ad, e1, e2⟩ := hw
            exact .inr (.inl ⟨⟨ad, e1, e2 ▸ hsb⟩, hat hrt op hou a hoa⟩)
          · rw [hrt] at hrf; cases hrf
  · obtain ⟨op, ho, hog⟩ := Option.map_eq_some_iff.1 hx
    rcases getElem?_append_cases ho with ⟨hi, ho'⟩ | ⟨hi, hou⟩
    · rcases h.over x g' (by rw [← Conc.g?_old (u := u) hi]; exact hx) hne ((Conc.counts_old hi).1 hc) with ⟨y, h1, h2⟩ | h1
      · have hy : y < t.size := by
          obtain ⟨z, hz, _⟩ := Option.map_eq_some_iff.1 h1
          exact lt_size_of_getElem? hz
        exact .inl ⟨y, by rw [Conc.g?_old hy]; exact h1, Conc.hb_app u h2⟩
      · exact .inr h1
    · have e : g' = g := by rw [← hog]; exact hug op hou
      subst e
      rcases hg with rfl | ⟨i, hi2, rfl⟩
      · exact absurd rfl hne
      · exact .inr ⟨i, hi2, rfl⟩
  · rcases getElem?_append_cases ho with ⟨_, ho'⟩ | ⟨_, hou⟩
    · exact h.gs x op ho'
    · rw [hug op hou]
      rcases hg with rfl | ⟨i, hi2, rfl⟩
      · omega
      · omega
  · obtain ⟨op, ho, hoa⟩ := Option.map_eq_some_iff.1 hx
    rcases getElem?_append_cases ho with ⟨hi, _⟩ | ⟨_, hou⟩
    · exact h.norel x a (by rw [← act?_old (u := u) hi]; exact hx)
    · exact (hu op hou).2.1 a hoa
  · obtain ⟨h1, h2⟩ := h.rels i r hr
    refine ⟨h1, h2.app fun x hx hgx => ?_⟩
    by_cases e : g = k0 + i
    · exact hcnt (hrl i r e hr) x hx (by rw [hgx, e])
    · obtain ⟨op, ho, hog⟩ := Option.map_eq_some_iff.1 hgx
      rcases getElem?_append_cases ho with ⟨hi, _⟩ | ⟨_, hou⟩
      · omega
      · exact absurd ((hug op hou).symm.trans hog) e
theorem touch_new {t u : Trace} {x : Nat} {a : Touch} (ha : touchAt (t ++ u) x = some a) (hn : ∀ op ∈ u, op.act.touch? = none) : x < t.size ∧ touchAt t x = some a := by
  obtain ⟨op, ho, hoa⟩ := touch_of ha
  rcases getElem?_append_cases ho with ⟨hi, ho'⟩ | ⟨_, hou⟩
  · exact ⟨hi, by rw [touchAt_of ho']; exact hoa⟩
  · rw [hn op hou] at hoa; cases hoa
theorem counts_new {t u : Trace} {x : Nat} (hc : (t ++ u).counts x) (hn : ∀ op ∈ u, op.act.touch? = none) : x < t.size ∧ t.counts x := by
  obtain ⟨y, hy, hr⟩ := id hc
  obtain ⟨h1, _⟩ := touch_new (a := y) hy hn
  exact ⟨h1, (Conc.counts_old h1).1 hc⟩
theorem Tri.fork (h : Tri SB Wg k0 j B ow rel t) {x y : MemOp} (hx : x.g = 0 ∧ x.act = .go (k0 + j)) (hy : y.g = k0 + j ∧ y.act = .start) (h0 : Deaf t 0 = 0) (hk : Deaf t (k0 + j) = 0)
    (how : ∀ l o, ow' l = o → o ≠ .nobody → ow l = o ∨ (o = .of (k0 + j) ∧ ow l = .of 0)) : Tri SB Wg k0 (j + 1) B ow' rel (t ++ #[x, y]) := by
  have hn : ∀ op ∈ #[x, y], op.act.touch? = none := by
    intro op hop
    simp only [List.mem_toArray, List.mem_cons, List.not_mem_nil, or_false] at hop
    rcases hop with rfl | rfl
    · rw [hx.2]; rfl
    · rw [hy.2]; rfl
  have fk : ∀ {i : Nat}, Knows t 0 i → Knows (t ++ #[x, y]) (k0 + j) i := fun hi => fork_knows hx hy h0 hk hi
  have act : ∀ g, AtWork k0 (j + 1) g → AtWork k0 j g ∨ g = k0 + j := by
    rintro g (rfl | ⟨i, hi, rfl⟩)
    · exact .inl (.inl rfl)
    · by_cases e : i = j
      · exact .inr (by rw [e])
      · exact .inl (.inr ⟨i, by omega, rfl⟩)
  refine ⟨fun said => ?_, fun op hop => ?_, fun l g' hl => ?_, fun l hl g' hg' => ?_, fun x' a ha hw hk' g' hg' => ?_, fun x' a ha hw hk' => ?_, fun x' a ha hm => ?_, fun x' g' hx' hne hc => ?_, fun x' op ho => ?_, fun x' a hx' => ?_, fun i r hr => ?_⟩
  · have h1 := noRace_append (said := said) (u := #[x]) (g := 0) (h.clean said) (by simp [hx.1]) (fun i a _ op hop b hb _ => by
      rw [hn op (by simp at hop; simp [hop])] at hb; cases hb)
    have h2 := noRace_append (said := said) (u := #[y]) (g := k0 + j) h1 (by simp [hy.1]) (fun i a _ op hop b hb _ => by
      rw [hn op (by simp at hop; simp [hop])] at hb; cases hb)
    have e : t ++ #[x, y] = t ++ #[x] ++ #[y] := by apply Array.ext'; simp
    rw [e]; exact h2
  · rcases Array.mem_append.1 hop with ho | ho
    · exact h.low op ho
    · simp only [List.mem_toArray, List.mem_cons, List.not_mem_nil, or_false] at ho
      rcases ho with rfl | rfl
      · rw [hx.2]; trivial
      · rw [hy.2]; trivial
  · intro z a ha e
    obtain ⟨_, ha'⟩ := touch_new ha hn
    rcases how l _ hl (by simp) with ho | ⟨ho, h2⟩
    · exact (h.own l g' ho z a ha' e).app _
    · cases ho; exact fk (h.own l 0 h2 z a ha' e)
  · rcases how l _ hl (by simp) with ho | ⟨ho, _⟩
    · intro z a ha e hw
      obtain ⟨_, ha'⟩ := touch_new ha hn
      rcases act g' hg' with h1 | rfl
      · exact (h.shr l ho g' h1 z a ha' e hw).app _
      · exact fk (h.shr l ho 0 (.inl rfl) z a ha' e hw)
    · cases ho
  · obtain ⟨_, ha'⟩ := touch_new ha hn
    rcases act g' hg' with h1 | rfl
    · exact (h.wg x' a ha' hw hk' g' h1).app _
    · exact fk (h.wg x' a ha' hw hk' 0 (.inl rfl))
  · obtain ⟨_, ha'⟩ := touch_new ha hn
    exact (h.wgS x' a ha' hw hk').app _
  · obtain ⟨hi, ha'⟩ := touch_new ha hn
    rcases h.known x' a ha' hm with h1 | h1 | ⟨i, h1, h2, h3⟩
    · exact .inl (h1.app _)
    · exact .inr (.inl h1)
    · exact .inr (.inr ⟨i, by omega, by rw [Conc.g?_old hi]; exact h2, h3⟩)
  · obtain ⟨hi, hc'⟩ := counts_new hc hn
    rcases h.over x' g' (by rw [← Conc.g?_old (u := #[x, y]) hi]; exact hx') hne hc' with ⟨z, h1, h2⟩ | ⟨i, h1, h2⟩
    · have hz : z < t.size := by
        obtain ⟨q, hq, _⟩ := Option.map_eq_some_iff.1 h1
        exact lt_size_of_getElem? hq
      exact .inl ⟨z, by rw [Conc.g?_old hz]; exact h1, Conc.hb_app _ h2⟩
    · exact .inr ⟨i, by omega, h2⟩
  · rcases getElem?_append_cases ho with ⟨_, ho'⟩ | ⟨_, hou⟩
    · have := h.gs x' op ho'; omega
    · simp only [List.mem_toArray, List.mem_cons, List.not_mem_nil, or_false] at hou
      rcases hou with rfl | rfl
      · rw [hx.1]; omega
      · rw [hy.1]; omega
  · obtain ⟨op, ho, hoa⟩ := Option.map_eq_some_iff.1 hx'
    rcases getElem?_append_cases ho with ⟨hi, _⟩ | ⟨_, hou⟩
    · exact h.norel x' a (by rw [← act?_old (u := #[x, y]) hi]; exact hx')
    · simp only [List.mem_toArray, List.mem_cons, List.not_mem_nil, or_false] at hou
      rcases hou with rfl | rfl
      · rw [hx.2] at hoa; cases hoa
      · rw [hy.2] at hoa; cases hoa
  · obtain ⟨h1, h2⟩ := h.rels i r hr
    exact ⟨by omega, h2.app fun x' _ _ hc => by have := (counts_new hc hn).1; omega⟩
theorem Tri.rel_ (h : Tri SB Wg k0 j B ow rel t) {i r : Nat} (hi : i < j) (hr : RelBy (Go.ConcR.stA Wg) t (k0 + i) r) (hx : ∀ x a, touchAt t x = some a → t.g? x = some (k0 + i) → x ≤ r) :
    Tri SB Wg k0 j B ow (Go.ConcN.upd rel i (some r)) t := by
  refine ⟨h.clean, h.low, h.own, h.shr, h.wg, h.wgS, fun x a ha hm => ?_, h.over, h.gs, h.norel, fun i' r' hr' => ?_⟩
  · rcases h.known x a ha hm with h1 | h1 | ⟨i', h1, h2, h3⟩
    · exact .inl h1
    · exact .inr (.inl h1)
    · refine .inr (.inr ⟨i', h1, h2, fun r' hr' => ?_⟩)
      by_cases e : i' = i
      · subst e
        rw [Go.ConcN.upd_same] at hr'; cases hr'
        exact hx x a ha h2
      · rw [Go.ConcN.upd_ne _ _ e] at hr'; exact h3 r' hr'
  · by_cases e : i' = i
    · subst e
      rw [Go.ConcN.upd_same] at hr'; cases hr'
      exact ⟨hi, hr⟩
    · rw [Go.ConcN.upd_ne _ _ e] at hr'; exact h.rels i' r' hr'
theorem Tri.acquire (h : Tri SB Wg k0 j B ow rel t) (hall : ∀ i, i < j → ∃ r, rel i = some r) (hd : Deaf t 0 = 0) (hW : Wg < B) (fn : FuncId) (pos : String) :
    Conc.Past (ShunB SB) B (t ++ MemOp.ofEvents 0 fn pos #[Go.ConcR.mk (.acquire (Go.ConcR.stA Wg))]) := by
  have e1 : MemOp.ofEvents 0 fn pos #[Go.ConcR.mk (.acquire (Go.ConcR.stA Wg))] = #[{ g := 0, fn, pos, act := .mark (.acquire (Go.ConcR.stA Wg)) }] := by simp [MemOp.ofEvents, Go.ConcR.mk, MemAct.ofEvent]
  rw [e1]
  have hlast : (t ++ #[({ g := 0, fn, pos, act := .mark (.acquire (Go.ConcR.stA Wg)) } : MemOp)])[t.size]? = some { g := 0, fn, pos, act := .mark (.acquire (Go.ConcR.stA Wg)) } := by rw [Array.getElem?_append_right (Nat.le_refl _)]; simp
  generalize hu : #[({ g := 0, fn, pos, act := .mark (.acquire (Go.ConcR.stA Wg)) } : MemOp)] = u at hlast
  have hn : ∀ op ∈ u, op.act.touch? = none := by subst hu; intro op hop; simp at hop; rw [hop]; rfl
  have hg0 : ∀ op ∈ u, op.g = 0 := by subst hu; intro op hop; simp at hop; rw [hop]
  have hheard : (t ++ u).heard t.size := ⟨0, by simp [Trace.g?, hlast], by rw [Conc.deaf_old (Nat.le_refl _)]; exact hd⟩
  have edge : ∀ i r, rel i = some r → HappensBefore (t ++ u) r t.size := by
    intro i r hr
    obtain ⟨_, hrb⟩ := h.rels i r hr
    have hrt : r < t.size := Conc.lt_of_act? hrb.act
    refine .single (.inr ⟨.marked hrt (.inr (by rw [act?_old hrt]; exact hrb.act)) (by simp [Trace.act?, hlast]) (fun k hk1 hk2 => ?_), (Conc.heard_old hrt).2 hrb.heard, hheard⟩)
    rw [act?_old hk2]
    exact h.norel k _
  have behind : ∀ i x r, rel i = some r → t.g? x = some (k0 + i) → x ≤ r → HappensBefore (t ++ u) x t.size := by
    intro i x r hr hx hle
    obtain ⟨_, hrb⟩ := h.rels i r hr
    have hrt : r < t.size := Conc.lt_of_act? hrb.act
    rcases Nat.lt_or_ge x r with hlt | hge
    · refine .trans (.single (.inl ⟨hlt, k0 + i, ?_, ?_⟩)) (edge i r hr)
      · rw [Conc.g?_old (by omega)]; exact hx
      · rw [Conc.g?_old hrt]; exact hrb.g
    · obtain rfl : x = r := by omega
      exact edge i x hr
  refine ⟨fun said => noRace_append (h.clean said) hg0 fun i a _ op hop b hb _ => (by rw [hn op hop] at hb; cases hb), fun x a ha hm => ?_, fun x g hx hne hc => ?_, ?_, fun op hop => ?_⟩
  · obtain ⟨hi, ha'⟩ := touch_new ha hn
    rcases h.known x a ha' hm with h1 | h1 | ⟨i, h1, h2, h3⟩
    · exact .inl (h1.app u)
    · exact .inr h1
    · obtain ⟨r, hr⟩ := hall i h1
      refine .inl ⟨t.size, _, hlast, rfl, .inr (behind i x r hr h2 (h3 r hr))⟩
  · obtain ⟨hi, hc'⟩ := counts_new hc hn
    have hx' : t.g? x = some g := by rw [← Conc.g?_old (u := u) hi]; exact hx
    rcases h.over x g hx' hne hc' with ⟨z, h1, h2⟩ | ⟨i, h1, h2⟩
    · have hz : z < t.size := by
        obtain ⟨q, hq, _⟩ := Option.map_eq_some_iff.1 h1
        exact lt_size_of_getElem? hq
      exact ⟨z, by rw [Conc.g?_old hz]; exact h1, Conc.hb_app _ h2⟩
    · obtain ⟨r, hr⟩ := hall i h1
      obtain ⟨_, hrb⟩ := h.rels i r hr
      subst h2
      have hle : x ≤ r := Nat.le_of_not_lt fun hlt => hrb.after x hlt hx' hc'
      exact ⟨t.size, by simp [Trace.g?, hlast], behind i x r hr hx' hle⟩
  · subst hu
    have := Conc.Deaf_push t ({ g := 0, fn, pos, act := .mark (.acquire (Go.ConcR.stA Wg)) } : MemOp) 0
    rw [this, hd]
    simp [Conc.deafStep]
  · rcases Array.mem_append.1 hop with ho | ho
    · exact h.low op ho
    · subst hu; simp at ho; rw [ho]; exact hW
theorem Tri.open_ (h : Conc.Past (ShunB SB) B t) (hgs : ∀ op ∈ t, op.g < k0) (hnr : ∀ op ∈ t, ∀ a, op.act ≠ .mark (.release a)) (hW : ¬ SB Wg)
    (how : ∀ l g, ow l = .of g → g = 0) (hs : ∀ l, ow l ≠ .nobody → l.isMemory = true ∧ ¬ ShunB SB l) : Tri (fun k => SB k ∨ k = Wg) Wg k0 0 B ow (fun _ => none) t := by
  have kn : ∀ x a, touchAt t x = some a → a.loc.isMemory = true → ¬ ShunB SB a.loc → Knows t 0 x := fun x a ha hm hn => by
    rcases h.known x a ha hm with h1 | ⟨h1, _⟩
    · exact h1
    · exact absurd h1 hn
  have kw : ∀ x a, touchAt t x = some a → WgL Wg a.loc → Knows t 0 x := fun x a ha hw => by
    obtain ⟨ad, e1, e2⟩ := hw
    refine kn x a ha (by rw [e1]; rfl) ?_
    rintro ⟨ad', e3, e4⟩
    rw [e1] at e3; cases e3
    exact hW (e2 ▸ e4)
  have a0 : ∀ g, AtWork k0 0 g → g = 0 := by
    rintro g (rfl | ⟨i, hi, _⟩)
    · rfl
    · omega
  refine ⟨h.clean, h.seen, fun l g hl x a ha e => ?_, fun l hl g hg x a ha e _ => ?_, fun x a ha hw _ g hg => by rw [a0 g hg]; exact kw x a ha hw, fun x a ha hw _ => kw x a ha hw, fun x a ha hm => ?_, fun x g hx hne hc => .inl ?_, fun x op ho => by simpa using hgs op (Array.mem_of_getElem? ho), fun x a hx => ?_, fun i r hr => by cases hr⟩
  · rw [how l g hl]
    obtain ⟨h1, h2⟩ := hs l (by rw [hl]; simp)
    exact kn x a ha (e ▸ h1) (e ▸ h2)
  · rw [a0 g hg]
    obtain ⟨h1, h2⟩ := hs l (by rw [hl]; simp)
    exact kn x a ha (e ▸ h1) (e ▸ h2)
  · rcases h.known x a ha hm with h1 | ⟨⟨ad, e1, e2⟩, h1⟩
    · exact .inl h1
    · exact .inr (.inl ⟨⟨ad, e1, .inl e2⟩, h1⟩)
  · obtain ⟨y, h1, h2⟩ := h.over x g hx hne hc
    exact ⟨y, h1, h2⟩
  · obtain ⟨op, ho, hoa⟩ := Option.map_eq_some_iff.1 hx
    exact hnr op (Array.mem_of_getElem? ho) a hoa
end
end Go.Xq
