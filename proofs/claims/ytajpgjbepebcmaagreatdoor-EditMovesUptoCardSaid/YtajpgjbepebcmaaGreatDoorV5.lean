/- The walks of regs.Yank and Get, of a register whose name is small. -/
import Derived.Test.YtajpgjbepebcmaaGreatDoorV4
import Derived.Laws.ResultCell
import Derived.Shelf.Strings.SlTrimAscii
import Derived.Maps.RangeRun
import Derived.WalkLawsBesides
/- The walks of regs.Yank and Get, of a register whose name is small. -/
namespace Go.Em
open Go.RowKit
theorem results_cell_row_tmp {P : Program} {fn : Func} {p u : Tmp} {ty : TypeId} (h : fn.results = #[.cell p ty, .tmp u]) (tmps : Array Value) (w : World) (g : Nat) (t : TypeId) (cs : Array Value) (fr : Nat × Nat) (d : TypeDesc)
    (hp : tmps.getD p undef = .pointer (some ⟨g, 0, none⟩)) (hg : w.heap[g]? = some (.cells cs t fr))
    (hu : P.underlying ty = some d) (hd : (match d with | .struct _ | .array _ _ => true | _ => false) = true) (hi : (P.info? ty).map (·.size) = some cs.size) {v : Value} (hv : tmps.getD u undef = v) :
    (results fn tmps).run P w = .ok (.tuple #[.agg cs, v]) w := by
  rw [results_cell_tmp h, hp, hv]
  simp [asAddr, run_loadVar_row w g t ty cs fr d hg hu hd hi, Result.andThen]
end Go.Em
namespace Go.Proofs
open Go.RowKit Go.Em

/-- What Yank makes of registers. -/
def yankF (f : Int → Option RegD) (name : Int) (x : RegD) : Int → Option RegD := if name = 34 then fput (fput (fput f name x) 34 x) 48 x else fput (fput f name x) 34 x

set_option maxRecDepth 100000 in
set_option maxHeartbeats 2000000 in
theorem get_ok {w : World} {rb : Nat} {f : Int → Option RegD} {G : Blocks} (h : RMem w rb f G) {name : Int} (h0 : 0 ≤ name) (h1 : name < 256) (hk : knownReg name = true) (hsm : rng 65 90 name = false) {x : RegD} (hx : f name = some x) :
    Calls Tryz.prog 17 #[.pointer (some ⟨rb, 0, none⟩), .int .u8 name] w fun e w' => ∃ a c b, e = .returned (.tuple #[.agg #[.slice a x.1.length c, .bool x.2], .int .u16 0]) ∧
      Sl w' 9 1 a x.1.length c (vstr x.1) b ∧ Keep w NoB w' ∧ Fresh w NoB (Opt b) := by
  obtain ⟨mb, g, H, hne, hb, hm, hc, hrH, hmH, hG, hlt⟩ := h
  obtain ⟨x', v, e1, e2, a0, n0, c0, b0, rfl, hs, hbH, hw, hxx⟩ := (hc name).resolve_left fun h => by rw [h.1] at hx; cases hx
  rw [hx] at e1
  cases e1
  have hn0 : n0 = x.1.length := by have := hs.len; rw [vstr_length, Nat.mul_one] at this; exact this.symm
  subst hn0
  have hold : ∀ W, MapIs W mb .u8 g → (Instr.lookup 66 (.map (some mb)) (.int .u8 name) true).run Tryz.prog W = .ok (.tuple #[.agg #[.slice a0 x.1.length c0, .bool x.2], .bool true]) W := fun W hW => by
    have := hW.look_ok Tryz.underlying66 Tryz.underlying5 (zero_reg W) name
    rw [e2] at this; exact this
  have hrb : rb < w.heap.size := hlt rb ((hG rb).2 (.inl rfl))
  have e0 : w.cell? ⟨rb, 0, none⟩ = some (.map (some mb)) := by rw [cell_blk hb]; rfl
  have HM : Kp _ := ⟨hm⟩
  have HS : Kp _ := ⟨hs⟩
  have HX : Kp _ := ⟨hxx⟩
  have HW : Kp _ := ⟨hw⟩
  have HO : Kp _ := ⟨hold⟩
  clear hm hc hG hlt hs hb hne hrH hmH hx e2 hbH hold hxx hw
  go_enter Tryz.func17, Tryz.ntmps17
  go_wp2_with fail
  have hsz : (w.alloc (.cells #[.slice none 0 0, .bool false] 54)).heap.size = w.heap.size + 1 := by simp
  have hK : Keep w NoB (w.alloc (.cells #[.slice none 0 0, .bool false] 54)) := (Keep.refl w NoB).alloc _
  have hx1 : (w.alloc (.cells #[.slice none 0 0, .bool false] 54)).heap[w.heap.size]? = some (.cells #[.slice none 0 0, .bool false] 54 (0, 0)) := heap_alloc_new w _
  generalize (w.alloc (.cells #[.slice none 0 0, .bool false] 54)) = W at *
  have HK : Kp _ := ⟨hK⟩
  refine wp_region_pl (fun W' => W'.cell? ⟨rb, 0, none⟩ = some (.map (some mb)) ∧ MapIs W' mb .u8 g)
    (.run 0 5 (.two 5 (.run 6 4 (.ac 10 (.ac 11 (.ac 12 .done)))) 10 (.ac 5 (.run 6 4 (.ac 11 (.ac 12 .done)))))) 13 (by kernel_rfl) (by kernel_rfl) (fun _ _ d _ _ h => by cases d <;> exact h) ⟨hK.drew.cell e0 fun h => h, HM.out.keep hK.drew fun h => h⟩ ?_
  clear hK
  iterate 5
    (refine' pl_read _ rfl rfl ?_ ?_
     rotate_left
     · (intro W' hW'; (try dsimp only at hW'); obtain ⟨q0, q1⟩ := hW'; go_simp; try rfl)
     simp only [Act.put, List.setIfInBounds_toArray, List.set_cons_zero, List.set_cons_succ])
  have hT1 : W.drew.cell? ⟨rb, 0, none⟩ = some (.map (some mb)) ∧ MapIs W.drew mb .u8 g := ⟨HK.out.drew.cell e0 fun h => h, HM.out.keep HK.out.drew fun h => h⟩
  have hT2 : ∀ o, (W.alloc o).drew.cell? ⟨rb, 0, none⟩ = some (.map (some mb)) ∧ MapIs (W.alloc o).drew mb .u8 g := fun o => ⟨(HK.out.alloc o).drew.cell e0 fun h => h, HM.out.keep (HK.out.alloc o).drew fun h => h⟩
  have HT1 : Kp _ := ⟨hT1⟩
  have HT2 : Kp _ := ⟨hT2⟩
  clear hT1 hT2
  refine pl_two _ _ rfl rfl ?_ ?_
  go_wp2_with ((with_reducible refine (Small_calls _ _ h0 h1).mono ?_)
               rintro e w' ⟨rfl, rfl⟩
               simp only [hsm, Bool.false_eq_true, if_false])
  refine ⟨HT1.out, ?_⟩
  refine' pl_read _ rfl rfl ?_ ?_
  rotate_left
  · intro W' hW'
    have hl := HO.out W' hW'.2
    go_simp
    try rfl
  simp only [Act.put, List.setIfInBounds_toArray, List.set_cons_zero, List.set_cons_succ]
  iterate 3
    (refine' pl_read _ rfl rfl ?_ ?_
     rotate_left
     · (intro W' hW'; (try dsimp only at hW'); go_simp; try rfl)
     simp only [Act.put, List.setIfInBounds_toArray, List.set_cons_zero, List.set_cons_succ])
  refine pl_do _ rfl ?_
  go_wp2_with fail
  refine ⟨HT2.out _, ?_⟩
  refine pl_do _ rfl ?_
  go_wp2_with fail
  refine ⟨HT2.out _, ?_⟩
  refine pl_do _ rfl ?_
  go_wp2_with fail
  refine ⟨HT2.out _, ?_⟩
  refine pl_end ?_
  rotate_left
  go_wp2_with fail
  refine ⟨HT2.out _, ?_⟩
  refine pl_do _ rfl ?_
  go_wp2_with ((with_reducible refine (Small_calls _ _ h0 h1).mono ?_)
               rintro e w' ⟨rfl, rfl⟩
               simp only [hsm, Bool.false_eq_true, if_false])
  refine ⟨HT2.out _, ?_⟩
  refine' pl_read _ rfl rfl ?_ ?_
  rotate_left
  · intro W' hW'
    have hl := HO.out W' hW'.2
    go_simp
    try rfl
  simp only [Act.put, List.setIfInBounds_toArray, List.set_cons_zero, List.set_cons_succ]
  iterate 3
    (refine' pl_read _ rfl rfl ?_ ?_
     rotate_left
     · (intro W' hW'; (try dsimp only at hW'); go_simp; try rfl)
     simp only [Act.put, List.setIfInBounds_toArray, List.set_cons_zero, List.set_cons_succ])
  refine pl_do _ rfl ?_
  go_wp2_with fail
  refine ⟨HT2.out _, ?_⟩
  refine pl_do _ rfl ?_
  go_wp2_with fail
  refine ⟨HT2.out _, ?_⟩
  refine pl_end ?_
  all_goals
    have HK2 : Kp (Keep w NoB (W.alloc (.cells #[.slice a0 x.1.length c0, .bool x.2] 54)).drew) := ⟨(HK.out.alloc _).drew⟩
    have hs2 : (W.alloc (.cells #[.slice a0 x.1.length c0, .bool x.2] 54)).drew.heap.size = w.heap.size + 2 := by simp [hsz]
    have hy2 : (W.alloc (.cells #[.slice a0 x.1.length c0, .bool x.2] 54)).drew.heap[w.heap.size + 1]? = some (.cells #[.slice a0 x.1.length c0, .bool x.2] 54 (0, 0)) := by
      have := heap_alloc_new W (.cells #[.slice a0 x.1.length c0, .bool x.2] 54)
      rw [hsz] at this; exact this
    have hy1 : (W.alloc (.cells #[.slice a0 x.1.length c0, .bool x.2] 54)).drew.heap[w.heap.size]? = some (.cells #[.slice none 0 0, .bool false] 54 (0, 0)) := (((Keep.refl W NoB).alloc _).drew).blk hx1 fun h => h
    clear HT1 HT2 HK HM HO
    generalize (W.alloc (.cells #[.slice a0 x.1.length c0, .bool x.2] 54)).drew = V at *
    have d0 : V.cell? ⟨w.heap.size + 1, 0, none⟩ = some (.slice a0 x.1.length c0) := by rw [cell_blk hy2]; rfl
    have d1 : V.cell? ⟨w.heap.size + 1, 1, none⟩ = some (.bool x.2) := by rw [cell_blk hy2]; rfl
    simp only [List.drop_succ_cons, List.drop_nil]
    go_wp2_with ((with_reducible refine (Known_calls _ _).mono ?_)
                 rintro e w' ⟨rfl, rfl⟩
                 rw [hk])
    have hn : x.1.length ≤ 1048576 := by have := weigh_ge x.1; have := HW.out; omega
    refine (clone_reg ((Rd.of_sl HS.out (vstr_one x.1)).keep HK2.out fun _ _ h => h) hn HX.out).mono ?_
    rintro e w3 ⟨a', c', b', rfl, s3, k3, f3⟩
    have g1 := k3.blk hy1 fun h => h
    have hsz3 : w.heap.size + 2 ≤ w3.heap.size := by have := k3.size; omega
    have hfr : ∀ g, b' = some g → w.heap.size + 2 ≤ g := fun g hg => by
      have := (f3 g hg).resolve_left (fun h => h)
      omega
    have e10 : w3.cell? ⟨w.heap.size, 0, none⟩ = some (.slice none 0 0) := by rw [cell_blk g1]; rfl
    have e11 : w3.cell? ⟨w.heap.size, 1, none⟩ = some (.bool false) := by rw [cell_blk g1]; rfl
    have z0 := free_blk g1 0
    have z1 := free_blk g1 1
    have S3 : Kp _ := ⟨s3⟩
    have K3 : Kp (Keep w NoB w3) := ⟨HK2.out.trans k3 (Fresh.refl _ _)⟩
    have HFR : Kp _ := ⟨hfr⟩
    have G1 : Kp _ := ⟨g1⟩
    clear s3 k3 f3 g1 hfr HK2 hx1 hy1 hy2
    go_wp2_with fail
    have hg := Go.Em.heap_setCell_same (Go.Em.heap_setCell_same G1.out 0 (.slice a' x.1.length c')) 1 (.bool x.2)
    refine bodyPost_ret (results_cell_row_tmp rfl _ _ w.heap.size _ _ _ _ rfl hg Tryz.underlying54 rfl (by kernel_rfl) rfl) rfl ?_
    have hne : ∀ g, b' = some g → g ≠ w.heap.size := fun g hg => by have := HFR.out g hg; omega
    refine ⟨a', c', b', rfl, S3.out.move fun g hg => ?_, (K3.out.setCell (a := ⟨w.heap.size, 0, none⟩) (.inr (Nat.le_refl _)) _).setCell (a := ⟨w.heap.size, 1, none⟩) (.inr (Nat.le_refl _)) _, fun g hg => .inr (by have := HFR.out g hg; omega)⟩
    exact (Below.heap_setCell _ ⟨w.heap.size, 1, none⟩ _ g (hne g hg)).trans (Below.heap_setCell w3 ⟨w.heap.size, 0, none⟩ _ g (hne g hg))

end Go.Proofs

/- The walk of regs.Yank, of a register whose name is small. -/
namespace Go.Proofs
open Go.RowKit Go.Em

theorem RMem.put {w : World} {rb : Nat} {f : Int → Option RegD} {G : Blocks} (h : RMem w rb f G) {x : RegD} {v : Value} (hv : ∃ H, RegV w H v x ∧ (∀ b, H b → G b ∧ b ≠ rb ∧ ∀ mb, w.cell? ⟨rb, 0, none⟩ = some (.map (some mb)) → b ≠ mb)) (k : Int) :
    ∃ mb o, w.cell? ⟨rb, 0, none⟩ = some (.map (some mb)) ∧ (Instr.mapUpdate 66 (.map (some mb)) (.int .u8 k) v).run Tryz.prog w = .ok () (setB w mb o) ∧ RMem (setB w mb o) rb (fput f k x) G ∧ Keep w G (setB w mb o) := by
  obtain ⟨H', hv, hH'⟩ := hv
  obtain ⟨mb, g, H, hne, hb, hm, hc, hrH, hmH, hG, hlt⟩ := h
  have e0 : w.cell? ⟨rb, 0, none⟩ = some (.map (some mb)) := by rw [cell_blk hb]; rfl
  obtain ⟨o, hrun, hm2⟩ := hm.put (P := Tryz.prog) Tryz.underlying66 Tryz.underlying5 k v
  have hk : Keep w (One mb) (setB w mb o) := (Keep.refl w (One mb)).setB (.inl rfl)
  have hd : Dis H (One mb) := fun b hb e => by cases e; exact hmH hb
  have hvH : RegV w H v x := by
    obtain ⟨a, n, c, b, h1, h2, h3, h4⟩ := hv
    refine ⟨a, n, c, b, h1, h2, fun g hg => ?_, h4⟩
    obtain ⟨q1, q2, q4⟩ := hH' g (h3 g hg)
    rcases (hG g).1 q1 with e | e | e
    · exact absurd e q2
    · exact absurd e (q4 mb e0)
    · exact e
  refine ⟨mb, o, e0, hrun, ⟨mb, _, H, hne, hk.blk hb fun e => hne e, hm2, fun j => ?_, hrH, hmH, hG, fun b hb => by rw [setB_size]; exact hlt b hb⟩, hk.mono fun b e => by cases e; exact (hG _).2 (.inr (.inl rfl))⟩
  unfold fput upd
  by_cases hj : j = k
  · rw [if_pos hj, if_pos hj]
    exact .inr ⟨_, _, rfl, rfl, hvH.keep hk hd⟩
  · rw [if_neg hj, if_neg hj]
    rcases hc j with h | ⟨y, u, e1, e2, h⟩
    · exact .inl h
    · exact .inr ⟨y, u, e1, e2, h.keep hk hd⟩

set_option maxRecDepth 100000 in
set_option maxHeartbeats 2000000 in
theorem yank_ok {w : World} {rb : Nat} {f : Int → Option RegD} {G : Blocks} (h : RMem w rb f G) {name : Int} (h0 : 0 ≤ name) (h1 : name < 256) (hk : knownReg name = true) (h95 : ¬ name = 95) (hsm : rng 65 90 name = false)
    {a : Option Addr} {n c : Nat} {xs : List ByteArray} {wh : Bool} (hr : Rd w 1 a n (vstr xs)) (hx : xs ≠ []) (hw : weigh xs ≤ 20000) :
    Calls Tryz.prog 83 #[.pointer (some ⟨rb, 0, none⟩), .int .u8 name, .agg #[.slice a n c, .bool wh]] w fun e w' => ∃ G', e = .returned (.int .u16 0) ∧ RMem w' rb (yankF f name (xs, wh)) G' ∧ Keep w G w' ∧ Fresh w G G' := by
  have HR : Kp _ := ⟨h⟩
  have HX : Kp _ := ⟨hx⟩
  have HW : Kp _ := ⟨hw⟩
  have hnn : xs.length = n := by have := hr.len; rw [vstr_length, Nat.mul_one] at this; exact this
  have hn : n ≤ 1048576 := by have := weigh_ge xs; omega
  have HRD : Kp (Rd (w.alloc (.cells #[.slice a n c, .bool wh] 54)) 1 a n (vstr xs)) := ⟨hr.keep ((Keep.refl w NoB).alloc _) fun _ _ h => h⟩
  have hK : Keep w NoB (w.alloc (.cells #[.slice a n c, .bool wh] 54)) := (Keep.refl w NoB).alloc _
  have hx1 : (w.alloc (.cells #[.slice a n c, .bool wh] 54)).heap[w.heap.size]? = some (.cells #[.slice a n c, .bool wh] 54 (0, 0)) := heap_alloc_new w _
  have hsz : (w.alloc (.cells #[.slice a n c, .bool wh] 54)).heap.size = w.heap.size + 1 := by simp
  have HN : Kp _ := ⟨hnn⟩
  have HGL : Kp _ := ⟨h.lt⟩
  clear h hx hw hr hnn
  go_enter Tryz.func83, Tryz.ntmps83
  go_wp2_with fail
  generalize (w.alloc (.cells #[.slice a n c, .bool wh] 54)) = W at *
  refine (clone_reg HRD.out hn HX.out).mono ?_
  rintro e w3 ⟨a', c', b', rfl, s3, k3, f3⟩
  have g1 := k3.blk hx1 fun h => h
  have e10 : w3.cell? ⟨w.heap.size, 0, none⟩ = some (.slice a n c) := by rw [cell_blk g1]; rfl
  have e11 : w3.cell? ⟨w.heap.size, 1, none⟩ = some (.bool wh) := by rw [cell_blk g1]; rfl
  have z0 := free_blk g1 0
  have z1 := free_blk g1 1
  have hfr : ∀ g, b' = some g → w.heap.size + 1 ≤ g := fun g hg => by
    have := (f3 g hg).resolve_left (fun h => h)
    omega
  have S3 : Kp _ := ⟨s3⟩
  have K3 : Kp (Keep w NoB w3) := ⟨hK.trans k3 (Fresh.refl _ _)⟩
  have HFR : Kp _ := ⟨hfr⟩
  have G1 : Kp _ := ⟨g1⟩
  clear s3 k3 f3 g1 hfr hK hx1 HRD
  go_wp2_with fail
  have hg := Go.Em.heap_setCell_same (Go.Em.heap_setCell_same G1.out 0 (.slice a' n c')) 1 (.bool wh)
  have HK4 : Kp (Keep w NoB ((w3.setCell ⟨w.heap.size, 0, none⟩ (.slice a' n c')).setCell ⟨w.heap.size, 1, none⟩ (.bool wh))) := ⟨(K3.out.setCell (a := ⟨w.heap.size, 0, none⟩) (.inr (Nat.le_refl _)) _).setCell (a := ⟨w.heap.size, 1, none⟩) (.inr (Nat.le_refl _)) _⟩
  have hne : ∀ g, b' = some g → g ≠ w.heap.size := fun g hg => by have := HFR.out g hg; omega
  have S4 : Kp (Sl ((w3.setCell ⟨w.heap.size, 0, none⟩ (.slice a' n c')).setCell ⟨w.heap.size, 1, none⟩ (.bool wh)) 9 1 a' n c' (vstr xs) b') :=
    ⟨S3.out.move fun g hg => (Below.heap_setCell _ ⟨w.heap.size, 1, none⟩ _ g (hne g hg)).trans (Below.heap_setCell w3 ⟨w.heap.size, 0, none⟩ _ g (hne g hg))⟩
  generalize ((w3.setCell ⟨w.heap.size, 0, none⟩ (.slice a' n c')).setCell ⟨w.heap.size, 1, none⟩ (.bool wh)) = V at *
  have HV : Kp _ := ⟨hg⟩
  clear e10 e11 z0 z1 S3 K3 G1 hne hg hsz
  have hbG : ∀ g, b' = some g → ¬ G g := fun g hg hG => by have := HGL.out g hG; have := HFR.out g hg; omega
  obtain ⟨mb, H, hG, hcm⟩ : ∃ mb, ∃ H : Blocks, (∀ b, G b ↔ b = rb ∨ b = mb ∨ H b) ∧ w.cell? ⟨rb, 0, none⟩ = some (.map (some mb)) := by
    obtain ⟨mb, g, H, hne, hb, hm, hc, hrH, hmH, hG, hlt⟩ := HR.out
    exact ⟨mb, H, hG, by rw [cell_blk hb]; rfl⟩
  have hRV : RMem V rb f G := HR.out.keep HK4.out fun _ _ h => h
  refine (lay_ok hRV h0 h1 hk h95 hsm S4.out hbG HX.out HW.out).mono ?_
  rintro e W2 ⟨rfl, r2, k2, c2⟩
  have hrbl : rb < V.heap.size := hRV.lt _ ((hG rb).2 (.inl rfl))
  have g2 := k2.blk HV.out (fun h => by have := HGL.out _ h; omega)
  have s2 : Sl W2 9 1 a' n c' (vstr xs) b' := S4.out.keep k2 hbG
  have cV : V.cell? ⟨rb, 0, none⟩ = some (.map (some mb)) := HK4.out.cell hcm fun h => h
  have d0 : W2.cell? ⟨w.heap.size, 0, none⟩ = some (.slice a' n c') := by rw [cell_blk g2]; rfl
  have d1 : W2.cell? ⟨w.heap.size, 1, none⟩ = some (.bool wh) := by rw [cell_blk g2]; rfl
  have c2' : W2.cell? ⟨rb, 0, none⟩ = some (.map (some mb)) := c2.trans cV
  have hfr2 : Fresh w G (Or2 G (Opt b')) := fun b hb => hb.imp id fun e => (by have := HFR.out b e; omega)
  have hbm : ∀ g, b' = some g → g ≠ mb := fun g hg e => hbG g hg ((hG g).2 (.inr (.inl e)))
  have hbr : ∀ g, b' = some g → g ≠ rb := fun g hg e => hbG g hg ((hG g).2 (.inl e))
  have hval : ∃ H, RegV W2.drew H (.agg #[.slice a' n c', .bool wh]) (xs, wh) ∧ (∀ b, H b → (Or2 G (Opt b')) b ∧ b ≠ rb ∧ ∀ mb, W2.drew.cell? ⟨rb, 0, none⟩ = some (.map (some mb)) → b ≠ mb) :=
    ⟨Opt b', ⟨a', n, c', b', rfl, s2.keep (Keep.refl W2 NoB).drew fun _ _ h => h, fun g hg => hg, HW.out, HX.out⟩, fun b hb => ⟨.inr hb, hbr b hb, fun m hm => by
      have : W2.drew.cell? ⟨rb, 0, none⟩ = some (.map (some mb)) := c2'
      rw [this] at hm; cases hm; exact hbm b hb⟩⟩
  obtain ⟨mb', o, hcm', hrun, r3, k3⟩ := (r2.keep (Keep.refl W2 NoB).drew fun _ _ h => h : RMem W2.drew _ _ _).put hval 48
  have hme : mb' = mb := by
    have : W2.drew.cell? ⟨rb, 0, none⟩ = some (.map (some mb)) := c2'
    rw [this] at hcm'; cases hcm'; rfl
  subst hme
  have HR2 : Kp _ := ⟨r2⟩
  have HR3 : Kp _ := ⟨r3⟩
  have HK2 : Kp (Keep w G W2) := ⟨(HK4.out.mono fun _ h => h.elim).trans k2 (Fresh.refl _ _)⟩
  have HK3 : Kp (Keep w G (setB W2.drew mb' o)) := ⟨((HK4.out.mono fun _ h => h.elim).trans k2 (Fresh.refl _ _)).drew.setB (.inl ((hG _).2 (.inr (.inl rfl))))⟩
  have HFR2 : Kp _ := ⟨hfr2⟩
  clear r2 r3 k2 k3 hval hfr2 hbm hbr hcm hcm' c2 cV hbG hrbl hRV s2 g2 hG HK4 S4 HV HR HX HW HN HGL HFR
  by_cases hq : name = 34
  · have hqb : (name == 34) = true := by simpa using hq
    have e3 : yankF f name (xs, wh) = fput (fput (fput f name (xs, wh)) 34 (xs, wh)) 48 (xs, wh) := by unfold yankF; rw [if_pos hq]
    have HE : Kp _ := ⟨e3⟩
    clear hq e3
    go_wp2_with fail
    refine wp_region_pl (fun W' => W'.cell? ⟨rb, 0, none⟩ = some (.map (some mb')) ∧ W'.cell? ⟨w.heap.size, 0, none⟩ = some (.slice a' n c') ∧ W'.cell? ⟨w.heap.size, 1, none⟩ = some (.bool wh))
      (.run 0 5 .done) 5 (by kernel_rfl) (by kernel_rfl) (fun _ _ d _ _ h => by cases d <;> exact h) ⟨c2', d0, d1⟩ ?_
    iterate 5
      (refine' pl_read _ rfl rfl ?_ ?_
       rotate_left
       · (intro W' hW'; (try dsimp only at hW'); obtain ⟨q0, q1, q2⟩ := hW'; go_simp; try rfl)
       simp only [Act.put, List.setIfInBounds_toArray, List.set_cons_zero, List.set_cons_succ])
    refine pl_end ?_
    simp only [List.drop_succ_cons, List.drop_zero]
    go_wp2_with fail
    go_ret
    exact ⟨_, rfl, by rw [HE.out]; exact HR3.out, HK3.out, HFR2.out⟩
  · have hqb : (name == 34) = false := by simpa using hq
    have e3 : yankF f name (xs, wh) = fput (fput f name (xs, wh)) 34 (xs, wh) := by unfold yankF; rw [if_neg hq]
    have HE : Kp _ := ⟨e3⟩
    clear hq e3
    go_wp2_with fail
    go_ret
    exact ⟨_, rfl, by rw [HE.out]; exact HR2.out, HK2.out, HFR2.out⟩

end Go.Proofs

/- The walks of work.yank, of way, and of Do at y and p. -/
namespace Go.Proofs
open Go.RowKit Go.Em

set_option maxRecDepth 100000 in
set_option maxHeartbeats 2000000 in
theorem yank_work {w : World} {wb : Nat} {c : CV} {bb rb : Nat} {d : Int} {S : BS} {F G : Blocks} {i n : Nat} {f : Int → Option RegD} (h : WMem w wb c bb rb ((i : Int) + 1) ((i : Int) + (n : Int)) d) (hB : BMem w bb S F) (hi : i + n ≤ S.lines.length) (hmost : S.lines.length ≤ 100000)
    (hR : RMem w rb f G) (hwG : ¬ G wb) (hn : 0 < n) {name : Int} (hname : regOf c.reg = name) (h0 : 0 ≤ name) (h1 : name < 256) (hk : knownReg name = true) (h95 : ¬ name = 95) (hsm : rng 65 90 name = false) (hw : weigh ((S.lines.drop i).take n) ≤ 20000) :
    Calls Tryz.prog 47 #[.pointer (some ⟨wb, 0, none⟩)] w fun e w' => ∃ G', e = .returned (.int .u16 0) ∧ RMem w' rb (yankF f name ((S.lines.drop i).take n, true)) G' ∧ Keep w G w' ∧ Fresh w G G' := by
  have c11 : w.cell? ⟨wb, 11, none⟩ = some (.pointer (some ⟨rb, 0, none⟩)) := by rw [cell_blk h]; rfl
  have HW : Kp _ := ⟨h⟩
  have HB : Kp _ := ⟨hB⟩
  have HR : Kp _ := ⟨hR⟩
  have HI : Kp _ := ⟨hi⟩
  have HM : Kp _ := ⟨hmost⟩
  have HNM : Kp _ := ⟨hname⟩
  have HWG : Kp _ := ⟨hwG⟩
  have HWT : Kp _ := ⟨hw⟩
  have HLN : Kp (((S.lines.drop i).take n).length = n) := ⟨by rw [List.length_take, List.length_drop]; omega⟩
  have HNE : Kp ((S.lines.drop i).take n ≠ []) := ⟨fun e => by have := HLN.out; rw [e] at this; simp at this; omega⟩
  have C11 : Kp _ := ⟨c11⟩
  clear h hB hR hi hmost hname hwG hw c11
  go_enter Tryz.func47, Tryz.ntmps47
  go_wp2_with fail
  refine wp_region_pl (fun W' => W'.cell? ⟨wb, 11, none⟩ = some (.pointer (some ⟨rb, 0, none⟩)))
    (.rds [0, 1, 2, 3, 4, 6] (.ac 5 (.ac 7 (.rd 8 (.ac 9 (.ac 10 .done)))))) 11 (by kernel_rfl) (by kernel_rfl) (fun _ _ d _ _ h => by cases d <;> exact h) C11.out ?_
  iterate 6
    (refine' pl_read _ rfl rfl ?_ ?_
     rotate_left
     · (intro W' hW'; (try dsimp only at hW'); go_simp; try rfl)
     simp only [Act.put, List.setIfInBounds_toArray, List.set_cons_zero, List.set_cons_succ])
  refine pl_do _ rfl ?_
  go_wp2_with ((refine (reg_work (HW.out.keep (Keep.refl w NoB).drew fun h => h)).mono ?_)
               rintro e w' ⟨rfl, rfl⟩
               rw [HNM.out])
  refine ⟨C11.out, ?_⟩
  refine pl_do _ rfl ?_
  go_wp2_with ((refine (lines_work (HW.out.keep (Keep.refl w NoB).drew fun h => h) (HB.out.keep (Keep.refl w NoB).drew fun _ _ h => h) HI.out HM.out).mono ?_)
               rintro e w1 ⟨sa, sc, sb, rfl, s1, k1, f1⟩
               have S1 : Kp _ := ⟨s1⟩
               have K1 : Kp (Keep w NoB w1) := ⟨(Keep.refl w NoB).drew.trans k1 (Fresh.refl _ _)⟩
               clear s1 k1 f1)
  refine ⟨K1.out.cell C11.out fun h => h, ?_⟩
  iterate 1
    (refine' pl_read _ rfl rfl ?_ ?_
     rotate_left
     · (intro W' hW'; (try dsimp only at hW'); go_simp; try rfl)
     simp only [Act.put, List.setIfInBounds_toArray, List.set_cons_zero, List.set_cons_succ])
  refine pl_do _ rfl ?_
  go_wp2_with fail
  refine (yank_ok (HR.out.keep K1.out fun _ _ h => h) h0 h1 hk h95 hsm (Rd.of_sl S1.out (vstr_one _)) HNE.out HWT.out).mono ?_
  rintro e w2 ⟨G', rfl, r2, k2, f2⟩
  have R2 : Kp _ := ⟨r2⟩
  have K2 : Kp (Keep w G w2) := ⟨(K1.out.mono fun _ h => h.elim).trans k2 (Fresh.refl _ _)⟩
  have F2 : Kp (Fresh w G G') := ⟨fun b hb => (f2 b hb).imp id fun e => Nat.le_trans K1.out.size e⟩
  clear r2 k2 f2
  go_wp2_with fail
  refine ⟨K2.out.cell C11.out HWG.out, ?_⟩
  refine pl_do _ rfl ?_
  go_wp2_with fail
  refine ⟨K2.out.cell C11.out HWG.out, ?_⟩
  refine pl_end ?_
  simp only [List.drop_succ_cons, List.drop_nil]
  go_wp2_with fail
  go_ret
  exact ⟨G', rfl, R2.out, K2.out, F2.out⟩

/-- A command with a name of its own and no number. -/
def cmdOf (range : Value) (name : ByteArray) (bang : Bool) (reg : Int) (dest pat rep flags : Value) (arg : ByteArray) : CV := ⟨range, name, bang, reg, -1, dest, pat, rep, flags, arg⟩

set_option maxRecDepth 100000 in
theorem way_y {w : World} {wb : Nat} {c : CV} {bb rb : Nat} {f t d : Int} (h : WMem w wb c bb rb f t d) (hn : c.name = ⟨#[121]⟩) :
    Calls Tryz.prog 30 #[.pointer (some ⟨wb, 0, none⟩)] w fun e w' => e = .returned (.func (.func 47) #[.pointer (some ⟨wb, 0, none⟩)] #[]) ∧ w = w' := by
  have c1 : w.cell? ⟨wb, 1, none⟩ = some (.string ⟨#[121]⟩) := by rw [cell_blk h]; show some (Value.string c.name) = _; rw [hn]
  clear h hn
  go_enter Tryz.func30, Tryz.ntmps30
  go_wp2_with fail
  go_ret
  exact ⟨rfl, rfl⟩

end Go.Proofs

/- The walks of edit.Do at y and at p. -/
namespace Go.Proofs
open Go.RowKit Go.Em

set_option maxRecDepth 100000 in
set_option maxHeartbeats 2000000 in
theorem do_y {w : World} {bb rb : Nat} {S : BS} {F G : Blocks} {i n : Nat} {fr tt d : Int} (hfr : fr = (i : Int) + 1) (hto : tt = (i : Int) + (n : Int)) {f : Int → Option RegD} {reg : Int} {range dest : Value} {arg pat rep flags : ByteArray} {bang : Bool} (hB : BMem w bb S F) (hi : i + n ≤ S.lines.length) (hmost : S.lines.length ≤ 100000)
    (hR : RMem w rb f G) (hn : 0 < n) {name : Int} (hname : regOf reg = name) (h0 : 0 ≤ name) (h1 : name < 256) (hk : knownReg name = true) (h95 : ¬ name = 95) (hsm : rng 65 90 name = false) (hw : weigh ((S.lines.drop i).take n) ≤ 20000) :
    Calls Tryz.prog 10 #[.pointer (some ⟨bb, 0, none⟩), .pointer (some ⟨rb, 0, none⟩), .agg #[range, .string ⟨#[121]⟩, .bool bang, .int .u8 reg, .int .i64 (-1), dest, .string pat, .string rep, .string flags, .string arg], .int .i64 fr, .int .i64 tt, .int .i64 d] w fun e w' =>
      ∃ G', e = .returned (.tuple #[.slice none 0 0, .int .u16 0]) ∧ RMem w' rb (yankF f name ((S.lines.drop i).take n, true)) G' ∧ Keep w G w' ∧ Fresh w G G' := by
  obtain ⟨tb, kb, oa, on, oc, q1, c0, q4, q6, q7, qf, ⟨FT, hT, hTd, -⟩, -⟩ := hB.cells
  have hbb : bb < w.heap.size := hB.lt _ hB.has
  have HT : Kp _ := ⟨hT⟩
  have HB : Kp _ := ⟨hB⟩
  have HR : Kp _ := ⟨hR⟩
  have HI : Kp _ := ⟨hi⟩
  have HM : Kp _ := ⟨hmost⟩
  have HNM : Kp _ := ⟨hname⟩
  have HWT : Kp _ := ⟨hw⟩
  have hi1 : 1 ≤ fr := by omega
  have hi2 : fr ≤ tt := by omega
  have hi3 : tt ≤ (S.lines.length : Int) := by omega
  have hi5 : ¬ (S.lines.length : Int) < tt := by omega
  have HFR : Kp _ := ⟨hfr⟩
  have HTO : Kp _ := ⟨hto⟩
  have HN : Kp _ := ⟨hn⟩
  clear q1 q4 q6 q7 qf hT hTd hB hR hi hmost hname hw hfr hto hn
  go_enter Tryz.func10, Tryz.ntmps10
  go_wp2_with fail
  refine (len_text (HT.out.keep ((Keep.refl w NoB).alloc _) fun _ _ h => h)).mono ?_
  rintro e w' ⟨rfl, q, rfl⟩
  go_wp2_with fail
  have hsz : ((w.alloc (.cells #[range, .string ⟨#[121]⟩, .bool bang, .int .u8 reg, .int .i64 (-1), dest, .string pat, .string rep, .string flags, .string arg] 36)).drewN q).heap.size = w.heap.size + 1 := by simp
  have hK0 : Keep w NoB ((w.alloc (.cells #[range, .string ⟨#[121]⟩, .bool bang, .int .u8 reg, .int .i64 (-1), dest, .string pat, .string rep, .string flags, .string arg] 36)).drewN q) := ((Keep.refl w NoB).alloc _).drewN q
  generalize (w.alloc (.cells #[range, .string ⟨#[121]⟩, .bool bang, .int .u8 reg, .int .i64 (-1), dest, .string pat, .string rep, .string flags, .string arg] 36)).drewN q = W0 at *
  have hK1 := hK0.alloc (.cells (WCells ⟨range, ⟨#[121]⟩, bang, reg, -1, dest, .string pat, .string rep, .string flags, arg⟩ bb rb fr tt d) 72)
  have hW : WMem (W0.alloc (.cells (WCells ⟨range, ⟨#[121]⟩, bang, reg, -1, dest, .string pat, .string rep, .string flags, arg⟩ bb rb fr tt d) 72)) (w.heap.size + 1) ⟨range, ⟨#[121]⟩, bang, reg, -1, dest, .string pat, .string rep, .string flags, arg⟩ bb rb ((i : Int) + 1) ((i : Int) + (n : Int)) d := by
    have := heap_alloc_new W0 (.cells (WCells ⟨range, ⟨#[121]⟩, bang, reg, -1, dest, .string pat, .string rep, .string flags, arg⟩ bb rb fr tt d) 72)
    rw [hsz] at this
    rw [← HFR.out, ← HTO.out]
    exact this
  unfold WCells at hK1 hW
  generalize (W0.alloc _) = V at *
  have HW : Kp _ := ⟨hW⟩
  have HK1 : Kp _ := ⟨hK1⟩
  have HBG : Kp _ := ⟨HR.out.lt⟩
  clear hW hK1 hK0 hsz
  refine (way_y HW.out rfl).mono ?_
  rintro e w' ⟨rfl, rfl⟩
  go_wp2_with fail
  refine (yank_work HW.out (HB.out.keep HK1.out fun _ _ h => h) HI.out HM.out (HR.out.keep HK1.out fun _ _ h => h) (fun h => by have := HBG.out _ h; omega) HN.out HNM.out h0 h1 hk h95 hsm HWT.out).mono ?_
  rintro e w2 ⟨G', rfl, r2, k2, f2⟩
  have R2 : Kp _ := ⟨r2⟩
  have K2 : Kp (Keep w G w2) := ⟨(HK1.out.mono fun _ h => h.elim).trans k2 (Fresh.refl _ _)⟩
  have F2 : Kp (Fresh w G G') := ⟨fun b hb => (f2 b hb).imp id fun e => Nat.le_trans HK1.out.size e⟩
  clear r2 k2 f2
  go_wp2_with fail
  go_ret2
  exact ⟨G', rfl, R2.out, K2.out, F2.out⟩

set_option maxRecDepth 100000 in
set_option maxHeartbeats 2000000 in
theorem do_p {w : World} {bb rb : Nat} {S : BS} {F : Blocks} {i n : Nat} {fr tt d : Int} (hfr : fr = (i : Int) + 1) (hto : tt = (i : Int) + (n : Int)) {reg : Int} {range dest : Value} {arg pat rep flags : ByteArray} {bang : Bool} (hB : BMem w bb S F) (hi : i + n ≤ S.lines.length) (hmost : S.lines.length ≤ 100000)
    (hn : 0 < n) :
    Calls Tryz.prog 10 #[.pointer (some ⟨bb, 0, none⟩), .pointer (some ⟨rb, 0, none⟩), .agg #[range, .string ⟨#[112]⟩, .bool bang, .int .u8 reg, .int .i64 (-1), dest, .string pat, .string rep, .string flags, .string arg], .int .i64 fr, .int .i64 tt, .int .i64 d] w fun e w' =>
      ∃ a c b, e = .returned (.tuple #[.slice a n c, .int .u16 0]) ∧ Sl w' 9 1 a n c (vstr ((S.lines.drop i).take n)) b ∧ BMem w' bb { S with at_ := tt } F ∧ Keep w F w' ∧ ∀ g, b = some g → w.heap.size ≤ g := by
  obtain ⟨tb, kb, oa, on, oc, q1, c0, q4, q6, q7, qf, ⟨FT, hT, hTd, -⟩, -⟩ := hB.cells
  have hbb : bb < w.heap.size := hB.lt _ hB.has
  have HT : Kp _ := ⟨hT⟩
  have HB : Kp _ := ⟨hB⟩
  have HI : Kp _ := ⟨hi⟩
  have HM : Kp _ := ⟨hmost⟩
  have hi1 : 1 ≤ fr := by omega
  have hi2 : fr ≤ tt := by omega
  have hi3 : tt ≤ (S.lines.length : Int) := by omega
  have hi5 : ¬ (S.lines.length : Int) < tt := by omega
  have HFR : Kp _ := ⟨hfr⟩
  have HTO : Kp _ := ⟨hto⟩
  have HN : Kp _ := ⟨hn⟩
  clear q1 q4 q6 q7 qf hT hTd hB hi hmost hfr hto hn
  go_enter Tryz.func10, Tryz.ntmps10
  go_wp2_with fail
  refine (len_text (HT.out.keep ((Keep.refl w NoB).alloc _) fun _ _ h => h)).mono ?_
  rintro e w' ⟨rfl, q, rfl⟩
  go_wp2_with fail
  have hsz : ((w.alloc (.cells #[range, .string ⟨#[112]⟩, .bool bang, .int .u8 reg, .int .i64 (-1), dest, .string pat, .string rep, .string flags, .string arg] 36)).drewN q).heap.size = w.heap.size + 1 := by simp
  have hK0 : Keep w NoB ((w.alloc (.cells #[range, .string ⟨#[112]⟩, .bool bang, .int .u8 reg, .int .i64 (-1), dest, .string pat, .string rep, .string flags, .string arg] 36)).drewN q) := ((Keep.refl w NoB).alloc _).drewN q
  generalize (w.alloc (.cells #[range, .string ⟨#[112]⟩, .bool bang, .int .u8 reg, .int .i64 (-1), dest, .string pat, .string rep, .string flags, .string arg] 36)).drewN q = W0 at *
  have hK1 := hK0.alloc (.cells (WCells ⟨range, ⟨#[112]⟩, bang, reg, -1, dest, .string pat, .string rep, .string flags, arg⟩ bb rb fr tt d) 72)
  have hW : WMem (W0.alloc (.cells (WCells ⟨range, ⟨#[112]⟩, bang, reg, -1, dest, .string pat, .string rep, .string flags, arg⟩ bb rb fr tt d) 72)) (w.heap.size + 1) ⟨range, ⟨#[112]⟩, bang, reg, -1, dest, .string pat, .string rep, .string flags, arg⟩ bb rb ((i : Int) + 1) ((i : Int) + (n : Int)) d := by
    have := heap_alloc_new W0 (.cells (WCells ⟨range, ⟨#[112]⟩, bang, reg, -1, dest, .string pat, .string rep, .string flags, arg⟩ bb rb fr tt d) 72)
    rw [hsz] at this
    rw [← HFR.out, ← HTO.out]
    exact this
  unfold WCells at hK1 hW
  generalize (W0.alloc _) = V at *
  have HW : Kp _ := ⟨hW⟩
  have HK1 : Kp _ := ⟨hK1⟩
  have HBG : Kp _ := ⟨HB.out.lt⟩
  clear hW hK1 hK0 hsz
  have hmm : min (max tt 1) (S.lines.length : Int) = tt := by omega
  have HMM : Kp _ := ⟨hmm⟩
  clear hmm
  refine (put_buf (HB.out.keep HK1.out fun _ _ h => h) tt).mono ?_
  rintro e w2 ⟨rfl, b2, k2⟩
  rw [HMM.out] at b2
  have B2 : Kp _ := ⟨b2⟩
  have K2 : Kp (Keep w F w2) := ⟨(HK1.out.mono fun _ h => h.elim).trans k2 (Fresh.refl _ _)⟩
  have HW2 : Kp _ := ⟨HW.out.keep k2 fun h => by have := HBG.out _ h; omega⟩
  have HS2 : Kp (w.heap.size ≤ w2.heap.size) := ⟨Nat.le_trans HK1.out.size k2.size⟩
  clear b2 k2
  go_wp2_with fail
  refine (lines_work HW2.out B2.out HI.out HM.out).mono ?_
  rintro e w3 ⟨sa, sc, sb, rfl, s3, k3, f3⟩
  have S3 : Kp _ := ⟨s3⟩
  have B3 : Kp _ := ⟨B2.out.keep k3 fun _ _ h => h⟩
  have K3 : Kp (Keep w F w3) := ⟨K2.out.trans (k3.mono (G := F) fun _ h => h.elim) (Fresh.refl _ _)⟩
  have F3 : Kp (∀ g, sb = some g → w.heap.size ≤ g) := ⟨fun g hg => Nat.le_trans HS2.out ((f3 g hg).resolve_left fun h => h)⟩
  clear s3 k3 f3
  go_wp2_with fail
  go_ret2
  exact ⟨_, _, _, rfl, S3.out, B3.out, K3.out, F3.out⟩


end Go.Proofs

/- The library's functions on strings; the walk of edit.Join. -/
namespace Go.Proofs
open Go.RowKit Go.Em Go.Shelf

def blankSet : List UInt8 := [32, 9]
def trimL (s : ByteArray) : ByteArray := ⟨(Lib.trimLeftS s.data.toList blankSet).toArray⟩
def trimR (s : ByteArray) : ByteArray := ⟨(Lib.trimRightS s.data.toList blankSet).toArray⟩
theorem ascii_of (l : List UInt8) (h : l.all (fun b => decide (b.toNat < 128)) = true) : ∀ (j : Nat) (b : UInt8), l[j]? = some b → b.toNat < 128 := fun j b hj => by
  have := List.all_eq_true.1 h b (List.mem_of_getElem? hj)
  simpa using this
theorem trimL_calls (s : ByteArray) (w : World) : Calls Tryz.prog 36 #[.string s, .string ⟨#[32, 9]⟩] w fun e w' => e = .returned (.string (trimL s)) ∧ Below w.heap.size w w' :=
  Any.strings_TrimLeft_laid Tryz.l161 (by kernel_rfl) s ⟨#[32, 9]⟩ w (by decide) (ascii_of _ (by decide))
theorem trimR_calls (s : ByteArray) (w : World) (hs : s.size ≤ 9223372036854775807) : Calls Tryz.prog 37 #[.string s, .string ⟨#[32, 9]⟩] w fun e w' => e = .returned (.string (trimR s)) ∧ Below w.heap.size w w' :=
  Any.strings_TrimRight_laid Tryz.l162 (by kernel_rfl) s ⟨#[32, 9]⟩ w hs (by decide) (ascii_of _ (by decide))
def trimS (s : ByteArray) : ByteArray := ⟨(Lib.trimLeftS s.data.toList [32]).toArray⟩
theorem trimS_calls (s : ByteArray) (w : World) : Calls Tryz.prog 36 #[.string s, .string ⟨#[32]⟩] w fun e w' => e = .returned (.string (trimS s)) ∧ Below w.heap.size w w' :=
  Any.strings_TrimLeft_laid Tryz.l161 (by kernel_rfl) s ⟨#[32]⟩ w (by decide) (ascii_of _ (by decide))

theorem trimL_size (s : ByteArray) : (trimL s).size ≤ s.size := by
  show (Lib.trimLeftS s.data.toList blankSet).toArray.size ≤ s.data.size
  unfold Lib.trimLeftS
  have := (List.dropWhile_sublist (fun c => blankSet.contains c) (l := s.data.toList)).length_le
  simpa using this
theorem size_pos_of {s : ByteArray} (h : s.toList.isEmpty = false) : 0 < s.size := by
  rw [ByteArray.toList_eq] at h
  show 0 < s.data.size
  cases hs : s.data.toList with
  | nil => rw [hs] at h; cases h
  | cons x l => rw [← Array.length_toList, hs]; simp

/-- Is its first byte a parenthesis? -/
def paren (s : ByteArray) : Bool := if h : 0 < s.size then ((s[0].toNat : Int) == 41) else false
theorem paren_eq {s : ByteArray} (h : 0 < s.size) : paren s = ((s[0].toNat : Int) == 41) := dif_pos h
/-- Two lines as one. -/
def joinP (a b : ByteArray) (bold : Bool) : ByteArray :=
  if bold then a ++ b else
  if (trimL b).toList.isEmpty then a else
  if a.toList.isEmpty || !((trimR a).toList == a.toList) || paren (trimL b) then a ++ trimL b else a ++ ⟨#[32]⟩ ++ trimL b

set_option maxRecDepth 100000 in
set_option maxHeartbeats 1000000 in
theorem join_calls (a b : ByteArray) (bold : Bool) (w : World) (ha : a.size ≤ 1000000) (hb : b.size ≤ 1000000) :
    Calls Tryz.prog 19 #[.string a, .string b, .bool bold] w fun e w' => e = .returned (.string (joinP a b bold)) ∧ Below w.heap.size w w' := by
  cases bold with
  | true =>
    go_enter Tryz.func19, Tryz.ntmps19
    go_wp2_with fail
    go_ret
    exact ⟨rfl, Below.refl _ _⟩
  | false =>
    have hts := trimL_size b
    have htl : (trimL b).size ≤ 1000000 := Nat.le_trans hts hb
    clear hts
    cases e1 : (trimL b).toList.isEmpty with
    | true =>
      have HJ : Kp (joinP a b false = a) := ⟨by unfold joinP; simp [e1]⟩
      go_enter Tryz.func19, Tryz.ntmps19
      go_wp2_with fail
      refine (trimL_calls b w).mono ?_
      rintro e w1 ⟨rfl, hb1⟩
      have HB1 : Kp _ := ⟨hb1⟩
      clear hb1
      go_wp2_with fail
      go_ret
      exact ⟨by rw [HJ.out]; rfl, HB1.out⟩
    | false =>
      have hpos := size_pos_of e1
      cases e2 : a.toList.isEmpty with
      | true =>
        have HJ : Kp (joinP a b false = a ++ trimL b) := ⟨by unfold joinP; simp [e1, e2]⟩
        go_enter Tryz.func19, Tryz.ntmps19
        go_wp2_with fail
        refine (trimL_calls b w).mono ?_
        rintro e w1 ⟨rfl, hb1⟩
        have HB1 : Kp _ := ⟨hb1⟩
        clear hb1
        go_wp2_with fail
        go_ret
        exact ⟨by rw [HJ.out]; rfl, HB1.out⟩
      | false =>
        cases e3 : (trimR a).toList == a.toList with
        | false =>
          have HJ : Kp (joinP a b false = a ++ trimL b) := ⟨by unfold joinP; simp [e1, e2, e3]⟩
          go_enter Tryz.func19, Tryz.ntmps19
          go_wp2_with fail
          refine (trimL_calls b w).mono ?_
          rintro e w1 ⟨rfl, hb1⟩
          have HB1 : Kp _ := ⟨hb1⟩
          clear hb1
          go_wp2_with fail
          refine (trimR_calls a w1 (by omega)).mono ?_
          rintro e w2 ⟨rfl, hb2⟩
          have HB2 : Kp _ := ⟨HB1.out.trans (hb2.mono HB1.out.size)⟩
          clear hb2
          go_wp2_with fail
          go_ret
          exact ⟨by rw [HJ.out]; rfl, HB2.out⟩
        | true =>
          go_enter Tryz.func19, Tryz.ntmps19
          go_wp2_with fail
          refine (trimL_calls b w).mono ?_
          rintro e w1 ⟨rfl, hb1⟩
          have HB1 : Kp _ := ⟨hb1⟩
          clear hb1
          go_wp2_with fail
          refine (trimR_calls a w1 (by omega)).mono ?_
          rintro e w2 ⟨rfl, hb2⟩
          have HB2 : Kp _ := ⟨HB1.out.trans (hb2.mono HB1.out.size)⟩
          clear hb2
          go_wp2_with fail
          · rename_i hq
            have hp : paren (trimL b) = true := (paren_eq hpos).trans hq
            have HJ : Kp (joinP a b false = a ++ trimL b) := ⟨by unfold joinP; simp [e1, e2, e3, hp]⟩
            go_ret
            exact ⟨by rw [HJ.out]; rfl, HB2.out⟩
          · rename_i hq
            have hp : paren (trimL b) = false := (paren_eq hpos).trans hq
            have HJ : Kp (joinP a b false = a ++ ⟨#[32]⟩ ++ trimL b) := ⟨by unfold joinP; simp [e1, e2, e3, hp]⟩
            go_ret
            exact ⟨by rw [HJ.out]; rfl, HB2.out⟩

end Go.Proofs

/- The walks of edit.back, and of Shift and known at the chapter's examples. -/
namespace Go.Proofs
open Go.RowKit Go.Em Go.Shelf

theorem cutP_calls (s : ByteArray) (w : World) : Calls Tryz.prog 72 #[.string s, .string ⟨#[9]⟩] w fun e w' => e = .returned (.tuple #[.string ⟨(Lib.trimPrefix s.data.toList [9]).toArray⟩, .bool (Lib.hasPrefix s.data.toList [9])]) ∧ w = w' :=
  (Tryz.strings_CutPrefix s ⟨#[9]⟩ w).mono fun _ _ h => ⟨h.1, h.2.symm⟩
theorem rep_calls (s : ByteArray) (c : Nat) (w : World) (hc : c ≤ 200) (hs : s.size ≤ 1000000) : Calls Tryz.prog 38 #[.string s, .int .i64 (c : Int)] w fun e w' => e = .returned (.string ⟨(Lib.repeatL s.data.toList c).toArray⟩) ∧ Below w.heap.size w w' :=
  Tryz.strings_Repeat s c w (by omega) (Nat.le_trans (Nat.mul_le_mul hs hc) (by omega))
theorem trimS_size (s : ByteArray) : (trimS s).size ≤ s.size := by
  show (Lib.trimLeftS s.data.toList [32]).toArray.size ≤ s.data.size
  unfold Lib.trimLeftS
  have := (List.dropWhile_sublist (fun c => List.contains [32] c) (l := s.data.toList)).length_le
  simpa using this
/-- A line without a shift. -/
def backP (s : ByteArray) : ByteArray := if Lib.hasPrefix s.data.toList [9] then ⟨(Lib.trimPrefix s.data.toList [9]).toArray⟩ else s.extract (min (s.size - (trimS s).size) 8) s.size

set_option maxRecDepth 100000 in
set_option maxHeartbeats 1000000 in
theorem back_calls (s : ByteArray) (w : World) (hs : s.size ≤ 1000000) : Calls Tryz.prog 39 #[.string s] w fun e w' => e = .returned (.string (backP s)) ∧ Below w.heap.size w w' := by
  cases hp : Lib.hasPrefix s.data.toList [9] with
  | true =>
    have HJ : Kp (backP s = ⟨(Lib.trimPrefix s.data.toList [9]).toArray⟩) := ⟨by unfold backP; rw [if_pos hp]⟩
    go_enter Tryz.func39, Tryz.ntmps39
    go_wp2_with fail
    refine (cutP_calls s w).mono ?_
    rintro e w1 ⟨rfl, rfl⟩
    rw [hp]
    go_wp2_with fail
    go_ret
    exact ⟨by rw [HJ.out]; rfl, Below.refl _ _⟩
  | false =>
    have HJ : Kp (backP s = s.extract (min (s.size - (trimS s).size) 8) s.size) := ⟨by unfold backP; rw [hp]; rfl⟩
    have hts := trimS_size s
    have htl : (trimS s).size ≤ 1000000 := Nat.le_trans hts hs
    go_enter Tryz.func39, Tryz.ntmps39
    go_wp2_with fail
    refine (cutP_calls s w).mono ?_
    rintro e w1 ⟨rfl, rfl⟩
    rw [hp]
    go_wp2_with fail
    refine (trimS_calls s w).mono ?_
    rintro e w1 ⟨rfl, hb1⟩
    have HB1 : Kp _ := ⟨hb1⟩
    clear hb1
    go_wp2_with fail
    go_ret
    exact ⟨by rw [HJ.out, show min (s.size - (trimS s).size) 8 = (min ((s.size : Int) - ((trimS s).size : Int)) 8).toNat by omega]; rfl, HB1.out⟩

def iterB : Nat → ByteArray → ByteArray
  | 0, s => s
  | n + 1, s => backP (iterB n s)
theorem backP_size (s : ByteArray) : (backP s).size ≤ s.size := by
  unfold backP
  split
  · show (Lib.trimPrefix s.data.toList [9]).toArray.size ≤ s.data.size
    have : (Lib.trimPrefix s.data.toList [9]).length ≤ s.data.toList.length := by
      unfold Lib.trimPrefix
      split <;> simp
    simpa using this
  · rw [ByteArray.size_extract]; omega
theorem iterB_size (s : ByteArray) : ∀ n, (iterB n s).size ≤ s.size
  | 0 => Nat.le_refl _
  | n + 1 => Nat.le_trans (backP_size _) (iterB_size s n)

set_option maxRecDepth 100000 in
set_option maxHeartbeats 1000000 in
/-- Shift to the left. -/
theorem shiftL_calls (s : ByteArray) (n : Nat) (w : World) (hs : s.size ≤ 1000000) (he : s.toList.isEmpty = false) (hn : n ≤ 200) :
    Calls Tryz.prog 20 #[.string s, .int .i64 (n : Int), .bool true] w fun e w' => e = .returned (.string (iterB n s)) ∧ Below w.heap.size w w' := by
  have hmm : min (n : Int) 200 = (n : Int) := by omega
  have HMM : Kp _ := ⟨hmm⟩
  clear hmm
  go_enter Tryz.func20, Tryz.ntmps20
  go_wp2_with fail
  rw [HMM.out]
  go_loopw [0, 22] (fun v j wr => ∃ k : Nat, k ≤ n ∧ j = .int .i64 (k : Int) ∧ v = .string (iterB k s) ∧ Kp (Below w.heap.size w wr)) (fun _ j _ => n - (intOf j).toNat)
  case atStart => exact ⟨0, Nat.zero_le _, rfl, rfl, ⟨Below.refl _ _⟩⟩
  case round =>
    obtain ⟨k, hk, rfl, rfl, HB⟩ := hrel
    by_cases hlt : k < n
    · have hsz : (iterB k s).size ≤ 1000000 := Nat.le_trans (iterB_size s k) hs
      go_wp2_with fail
      refine (back_calls (iterB k s) wr hsz).mono ?_
      rintro e w1 ⟨rfl, hb1⟩
      have HB1 : Kp (Below w.heap.size w w1) := ⟨HB.out.trans (hb1.mono HB.out.size)⟩
      clear hb1
      go_wp2_with fail
      go_roundw
      case rel => exact ⟨k + 1, by omega, by go_num, rfl, HB1⟩
      case measure => simp [intOf]; omega
    · have hke : k = n := by omega
      subst hke
      go_wp2_with fail
      go_ret
      exact ⟨rfl, HB.out⟩

set_option maxRecDepth 100000 in
set_option maxHeartbeats 1000000 in
/-- Shift to the right. -/
theorem shiftR_calls (s : ByteArray) (n : Nat) (w : World) (hs : s.size ≤ 1000000) (he : s.toList.isEmpty = false) (hn : n ≤ 200) :
    Calls Tryz.prog 20 #[.string s, .int .i64 (n : Int), .bool false] w fun e w' => e = .returned (.string (⟨(Lib.repeatL [9] n).toArray⟩ ++ s)) ∧ Below w.heap.size w w' := by
  have hmm : min (n : Int) 200 = (n : Int) := by omega
  have HMM : Kp _ := ⟨hmm⟩
  clear hmm
  go_enter Tryz.func20, Tryz.ntmps20
  go_wp2_with fail
  rw [HMM.out]
  refine (rep_calls ⟨#[9]⟩ n w hn (by decide)).mono ?_
  rintro e w1 ⟨rfl, hb1⟩
  have HB1 : Kp _ := ⟨hb1⟩
  clear hb1
  have hrs : (⟨(Lib.repeatL [9] n).toArray⟩ : ByteArray).size ≤ 1000000 := by
    show (Lib.repeatL [9] n).toArray.size ≤ 1000000
    have := Lib.repeatL_length [9] n
    simp only [List.size_toArray]
    rw [this]
    simp
    omega
  go_wp2_with fail
  go_ret
  exact ⟨rfl, HB1.out⟩

set_option maxRecDepth 100000 in
set_option maxHeartbeats 1000000 in
/-- The chapter's examples. -/
theorem known_calls (w : World) : Calls Tryz.prog 7 #[] w fun e w' => e = .returned (.bool true) ∧ Below w.heap.size w w' := by
  have j1 : joinP ⟨#[97]⟩ ⟨#[32, 32, 98]⟩ false = ⟨#[97, 32, 98]⟩ := by
    simp only [joinP, ByteArray.toList_eq]
    decide
  have j2 : joinP ⟨#[97]⟩ ⟨#[32, 32, 98]⟩ true = ⟨#[97, 32, 32, 98]⟩ := by decide
  have j3 : (⟨(Lib.repeatL [9] 2).toArray⟩ ++ ⟨#[120]⟩ : ByteArray) = ⟨#[9, 9, 120]⟩ := by decide
  have j4 : iterB 9 ⟨#[9, 9, 120]⟩ = ⟨#[120]⟩ := by decide
  go_enter Tryz.func7, Tryz.ntmps7
  have J1 : Kp _ := ⟨j1⟩
  have J2 : Kp _ := ⟨j2⟩
  have J3 : Kp _ := ⟨j3⟩
  have J4 : Kp _ := ⟨j4⟩
  clear j1 j2 j3 j4
  go_wp2_with fail
  refine (join_calls _ _ false w (by decide) (by decide)).mono ?_
  rintro e w1 ⟨rfl, b1⟩
  rw [J1.out]
  have B1 : Kp _ := ⟨b1⟩
  clear b1
  go_wp2_with fail
  refine (join_calls _ _ true w1 (by decide) (by decide)).mono ?_
  rintro e w2 ⟨rfl, b2⟩
  rw [J2.out]
  have B2 : Kp (Below w.heap.size w w2) := ⟨B1.out.trans (b2.mono B1.out.size)⟩
  clear b2
  go_wp2_with fail
  refine (shiftR_calls ⟨#[120]⟩ 2 w2 (by decide) (by rw [ByteArray.toList_eq]; rfl) (by omega)).mono ?_
  rintro e w3 ⟨rfl, b3⟩
  rw [J3.out]
  have B3 : Kp (Below w.heap.size w w3) := ⟨B2.out.trans (b3.mono B2.out.size)⟩
  clear b3
  go_wp2_with fail
  refine (shiftL_calls ⟨#[9, 9, 120]⟩ 9 w3 (by decide) (by rw [ByteArray.toList_eq]; rfl) (by omega)).mono ?_
  rintro e w4 ⟨rfl, b4⟩
  rw [J4.out]
  have B4 : Kp (Below w.heap.size w w4) := ⟨B3.out.trans (b4.mono B3.out.size)⟩
  clear b4
  go_wp2_with fail
  go_ret
  exact ⟨rfl, B4.out⟩

end Go.Proofs

/- The walk of the reference's Same for registers. -/
namespace Go.Proofs
open Go.RowKit Go.Em

/-- Are two registers alike? -/
def regSame (xs ys : List ByteArray) (p q : Bool) : Bool := decide (xs = ys ∧ p = q)
theorem regSame_self (xs : List ByteArray) (p : Bool) : regSame xs xs p p = true := by simp [regSame]

set_option maxRecDepth 100000 in
set_option maxHeartbeats 2000000 in
theorem same_reg {w : World} {a a2 : Option Addr} {n c m c2 : Nat} {xs ys : List ByteArray} {p q : Bool} (h1 : Rd w 1 a n (vstr xs)) (h2 : Rd w 1 a2 m (vstr ys)) (hn : n < 9223372036854775807) :
    Calls Tryz.prog 18 #[.agg #[.slice a n c, .bool p], .agg #[.slice a2 m c2, .bool q]] w fun e w' => e = .returned (.bool (regSame xs ys p q)) ∧ Keep w NoB w' := by
  have hxl : xs.length = n := by have := h1.len; rw [vstr_length, Nat.mul_one] at this; exact this
  have hyl : ys.length = m := by have := h2.len; rw [vstr_length, Nat.mul_one] at this; exact this
  have HX : Kp _ := ⟨hxl⟩
  have HY : Kp _ := ⟨hyl⟩
  have hK : Keep w NoB ((w.alloc (.cells #[.slice a n c, .bool p] 54)).alloc (.cells #[.slice a2 m c2, .bool q] 54)) := ((Keep.refl w NoB).alloc _).alloc _
  have H1 : Kp _ := ⟨h1.keep hK fun _ _ h => h⟩
  have H2 : Kp _ := ⟨h2.keep hK fun _ _ h => h⟩
  have HK : Kp _ := ⟨hK⟩
  have hx := heap_two w (.cells #[.slice a n c, .bool p] 54) (.cells #[.slice a2 m c2, .bool q] 54)
  have hx2 : ((w.alloc (.cells #[.slice a n c, .bool p] 54)).alloc (.cells #[.slice a2 m c2, .bool q] 54)).heap[w.heap.size + 1]? = _ := hx.1
  have hx1 : ((w.alloc (.cells #[.slice a n c, .bool p] 54)).alloc (.cells #[.slice a2 m c2, .bool q] 54)).heap[w.heap.size]? = _ := hx.2
  have HX1 : Kp _ := ⟨hx1⟩
  have HX2 : Kp _ := ⟨hx2⟩
  clear hxl hyl h1 h2 hK hx hx1 hx2
  by_cases hnm : n = m
  case neg =>
    have hne : xs ≠ ys := fun e => hnm (by rw [← HX.out, ← HY.out, e])
    have hnm' : ¬ ((n : Int) = (m : Int)) := by omega
    have HE : Kp (regSame xs ys p q = false) := ⟨by simp [regSame, hne]⟩
    clear hne
    go_enter Tryz.func18, Tryz.ntmps18
    go_wp2_with fail
    go_ret
    exact ⟨by rw [HE.out]; rfl, HK.out⟩
  subst hnm
  by_cases hpq : p = q
  case neg =>
    have HE : Kp (regSame xs ys p q = false) := ⟨by simp [regSame, hpq]⟩
    have hbq : (!(p == q)) = true := by simp [hpq]
    clear hpq
    go_enter Tryz.func18, Tryz.ntmps18
    go_wp2_with fail
    go_ret
    exact ⟨by rw [HE.out]; rfl, HK.out⟩
  subst hpq
  go_enter Tryz.func18, Tryz.ntmps18
  go_wp2_with fail
  generalize ((w.alloc (.cells #[.slice a n c, .bool p] 54)).alloc (.cells #[.slice a2 n c2, .bool p] 54)) = W at *
  have c0 : W.cell? ⟨w.heap.size, 0, none⟩ = some (.slice a n c) := by rw [cell_blk HX1.out]; rfl
  have c1 : W.cell? ⟨w.heap.size + 1, 0, none⟩ = some (.slice a2 n c2) := by rw [cell_blk HX2.out]; rfl
  go_loopw [5] (fun j wr => ∃ k q : Nat, k ≤ n ∧ j = .int .i64 (k : Int) ∧ wr = W.drewN q ∧ Kp (xs.take k = ys.take k)) (fun j _ => n - (intOf j).toNat)
  case atStart => exact ⟨0, 0, Nat.zero_le _, rfl, rfl, ⟨rfl⟩⟩
  case round =>
    obtain ⟨k, q, hk, rfl, rfl, HT⟩ := hrel
    by_cases hlt : k < n
    · obtain ⟨x, hx⟩ : ∃ x, xs[k]? = some x := ⟨_, List.getElem?_eq_getElem (by have := HX.out; omega)⟩
      obtain ⟨y, hy⟩ : ∃ y, ys[k]? = some y := ⟨_, List.getElem?_eq_getElem (by have := HY.out; omega)⟩
      obtain ⟨ad, hae, hc1⟩ := H1.out.cells k _ (vstr_get hx)
      obtain ⟨ad2, hae2, hc2⟩ := H2.out.cells k _ (vstr_get hy)
      have HXG : Kp _ := ⟨hx⟩
      have HYG : Kp _ := ⟨hy⟩
      have hki : (k : Int) < (n : Int) := by omega
      subst hae
      subst hae2
      clear hx hy
      by_cases hxy : x = y
      · have hb : (x.toList == y.toList) = true := by rw [hxy]; simp
        have HXY : Kp _ := ⟨hxy⟩
        clear hxy
        go_wp2_with fail
        go_quiet (fail)
        go_wp2_with fail
        go_roundw
        case rel => exact ⟨k + 1, q + nq, by omega, by go_num, rfl, ⟨by rw [take_next HXG.out, take_next HYG.out, HT.out, HXY.out]⟩⟩
        case measure => simp [intOf]; omega
      · have hb : (x.toList == y.toList) = false := bytes_ne hxy
        have hne : xs ≠ ys := fun e => hxy (by
          have h1 := HXG.out
          rw [e, HYG.out] at h1
          exact (Option.some.inj h1).symm)
        have HE : Kp (xs ≠ ys) := ⟨hne⟩
        clear hxy hne
        go_wp2_with fail
        go_quiet (fail)
        go_wp2_with fail
        go_ret
        exact ⟨by rw [show regSame xs ys p p = false by simp [regSame, HE.out]]; rfl, (HK.out.drewN q).drewN nq⟩
    · have hke : k = n := by omega
      subst hke
      have he : xs = ys := by
        have h := HT.out
        rw [List.take_of_length_le (by have := HX.out; omega), List.take_of_length_le (by have := HY.out; omega)] at h
        exact h
      have HE : Kp (xs = ys) := ⟨he⟩
      clear HT he
      go_wp2_with fail
      go_ret
      exact ⟨by rw [show regSame xs ys p p = true by simp [regSame, HE.out]]; rfl, HK.out.drewN q⟩

end Go.Proofs

/- The walk of buf.New at lines that are too long. -/
namespace Go.Proofs
open Go.RowKit Go.Em

set_option maxRecDepth 100000 in
set_option maxHeartbeats 2000000 in
theorem new_buf_long {w : World} {a : Option Addr} {n c : Nat} {xs : List ByteArray} (hr : Rd w 1 a n (vstr xs)) (hn : n ≤ 2000) (hl : isLong xs = true) {st : Int} (s0 : 1 ≤ st) (s1 : st ≤ 200) :
    Calls Tryz.prog 8 #[.slice a n c, .int .i64 st] w fun e w' => e = .returned (.tuple #[.pointer none, .int .u16 90]) ∧ Keep w NoB w' := by
  have HR : Kp _ := ⟨hr⟩
  clear hr
  have hn2 : ¬ (2000 : Int) < n := by omega
  go_enter Tryz.func8, Tryz.ntmps8
  go_wp2_with ((with_reducible refine (new_undo _ s0 s1).mono ?_)
               rintro e w1 ⟨ub, rfl, k1, -, -⟩
               have K1 : Kp _ := ⟨k1⟩
               clear k1)
  refine (long_calls (HR.out.keep K1.out fun _ _ h => h) (by omega)).mono ?_
  rintro e w' ⟨rfl, rfl⟩
  rw [hl]
  go_wp2_with fail
  go_ret2
  exact ⟨rfl, K1.out⟩

end Go.Proofs

/- The walks of slices.Grow of no slice and of slices.Concat of two slices of strings. -/
namespace Go.Proofs
open Go.RowKit Go.Em Go.Shelf

theorem rd_sub {w : World} {a : Option Addr} {n : Nat} {l : List ByteArray} (h : Rd w 1 a n (vstr l)) (i m : Nat) (hm : i + m ≤ n) (hp : 0 < n) : ∃ ad, a = some ad ∧ Rd w 1 (some (ad.add i)) m (vstr ((l.drop i).take m)) := by
  have hl : l.length = n := by have := h.len; rw [vstr_length, Nat.mul_one] at this; exact this
  obtain ⟨x, hx⟩ : ∃ x, l[0]? = some x := ⟨_, List.getElem?_eq_getElem (by omega)⟩
  obtain ⟨ad, ha, _⟩ := h.cells 0 _ (vstr_get hx)
  refine ⟨ad, ha, ⟨?_, fun j u hj => ?_, vstr_one _⟩⟩
  · rw [vstr_length, List.length_take, List.length_drop]; omega
  · have hj2 : (vstr l)[i + j]? = some u := by
      unfold vstr at hj ⊢
      rw [List.getElem?_map, List.getElem?_take] at hj
      split at hj
      · rw [List.getElem?_drop] at hj
        rw [List.getElem?_map]; exact hj
      · simp at hj
    obtain ⟨ad2, h2, h3⟩ := h.cells (i + j) u hj2
    rw [ha] at h2
    cases h2
    refine ⟨_, rfl, ?_⟩
    rw [Addr.add_add]
    exact h3

theorem grow_str (w : World) (n : Nat) (h0 : 0 < n) (hn : n ≤ 1048576) :
    Calls Tryz.prog 146 #[.slice none 0 0, .int .i64 (n : Int)] w fun e w' => ∃ c, e = .returned (.slice (some ⟨w.heap.size, 0, none⟩) 0 c) ∧ Sl w' 9 1 (some ⟨w.heap.size, 0, none⟩) 0 c [] (some w.heap.size) ∧ Keep w NoB w' := by
  obtain ⟨i0, hi0, he⟩ := Option.map_eq_some_iff.1 info_str
  simp only [Prod.mk.injEq] at he
  obtain ⟨hz, hs, hb⟩ := he
  refine (Any8.slices_Grow_grow Tryz.lgrow i0 (.string ByteArray.empty) hi0 hz (by rw [hs]; omega) none 0 0 n [] w (Nat.le_refl _) (by omega) (by rw [hb]; omega) (by omega) (by simp) (fun _ => rfl) (fun a h => by cases h)).mono ?_
  rintro e w' ⟨rfl, rfl⟩
  have hge := grownCap_ge w (0 + n) 0 9
  have hcm : grownCap w (0 + n) 0 9 ≤ maxLen := grownCap_le_maxLen w (0 + n) 0 9 (by simp only [maxLen]; omega)
  have ht : Tryz.lgrow_ren.t 25 = 9 := rfl
  rw [ht]
  refine ⟨grownCap w (0 + n) 0 9, rfl, ?_, (Keep.refl w NoB).drew.alloc _⟩
  have h1 : (Value.string ByteArray.empty).cells.size = 1 := rfl
  exact Sl.made w.drew 9 1 0 (grownCap w (0 + n) 0 9) _ (Nat.zero_le _) (by simpa only [maxLen] using hcm) (by
    simp only [Array.size_append, List.size_toArray, size_zeroCells, h1, List.length_nil]
    omega)

set_option maxRecDepth 100000 in
set_option maxHeartbeats 2000000 in
theorem concat_str {w : World} {vb : Nat} {a1 a2 : Option Addr} {n1 n2 c1 c2 T : Nat} {xs ys : List ByteArray} (hv : w.heap[vb]? = some (.cells #[.slice a1 n1 c1, .slice a2 n2 c2] T (0, 0))) (h1 : Rd w 1 a1 n1 (vstr xs)) (h2 : Rd w 1 a2 n2 (vstr ys)) (hn1 : n1 ≤ 100000) (hn2 : n2 ≤ 100000) (h0 : 0 < n1 + n2) :
    Calls Tryz.prog 113 #[.slice (some ⟨vb, 0, none⟩) 2 2] w fun e w' => ∃ a c b, e = .returned (.slice a (n1 + n2) c) ∧ Sl w' 9 1 a (n1 + n2) c (vstr (xs ++ ys)) b ∧ Keep w NoB w' ∧ ∀ g, b = some g → w.heap.size ≤ g := by
  have e0 : w.cell? ⟨vb, 0, none⟩ = some (.slice a1 n1 c1) := by rw [cell_blk hv]; rfl
  have e1 : w.cell? ⟨vb, 1, none⟩ = some (.slice a2 n2 c2) := by rw [cell_blk hv]; rfl
  have H1 : Kp _ := ⟨h1⟩
  have H2 : Kp _ := ⟨h2⟩
  have E0 : Kp _ := ⟨e0⟩
  have E1 : Kp _ := ⟨e1⟩
  have hb1 : (n1 : Int) ≤ 100000 := by omega
  have hb2 : (n2 : Int) ≤ 100000 := by omega
  clear hv h1 h2
  go_enter Tryz.func113, Tryz.ntmps113
  go_wp2_with fail
  go_loopw [11, 3] (fun j v wr => ∃ k : Nat, k ≤ 2 ∧ j = .int .i64 (k : Int) ∧ v = .int .i64 (if k = 0 then 0 else if k = 1 then (n1 : Int) else ((n1 + n2 : Nat) : Int)) ∧ w = wr) (fun j _ _ => 2 - (intOf j).toNat)
  case atStart => exact ⟨0, by omega, rfl, rfl, rfl⟩
  case round =>
    obtain ⟨k, hk, rfl, rfl, rfl⟩ := hrel
    have hk' : k = 0 ∨ k = 1 ∨ k = 2 := by omega
    rcases hk' with rfl | rfl | rfl
    · go_wp2_with fail
      go_roundw
      case rel => exact ⟨1, by omega, rfl, by simp, by first | rfl | trivial⟩
      case measure => simp [intOf]
    · go_wp2_with fail
      go_roundw
      case rel => exact ⟨2, by omega, rfl, by simp, by first | rfl | trivial⟩
      case measure => simp [intOf]
    · go_wp2_with fail
      rw [show (n1 : Int) + (n2 : Int) = ((n1 + n2 : Nat) : Int) by omega]
      refine (grow_str w (n1 + n2) h0 (by omega)).mono ?_
      rintro e w1 ⟨gc, rfl, s1, k1⟩
      have S1 : Kp _ := ⟨s1⟩
      have K1 : Kp _ := ⟨k1⟩
      clear s1 k1
      go_wp2_with fail
      go_loopw [27, 6] (fun j v wr => ∃ (k : Nat) (a : Option Addr) (m c : Nat) (b : Option Nat) (l : List ByteArray), k ≤ 2 ∧ j = .int .i64 (k : Int) ∧ v = .slice a m c ∧ Kp (l = if k = 0 then [] else if k = 1 then xs else xs ++ ys) ∧
          Kp (Sl wr 9 1 a m c (vstr l) b) ∧ Kp (Keep w NoB wr) ∧ Kp (∀ g, b = some g → w.heap.size ≤ g)) (fun j _ _ => 2 - (intOf j).toNat)
      case atStart => exact ⟨0, _, 0, gc, _, [], by omega, rfl, rfl, ⟨rfl⟩, S1, K1, ⟨fun g hg => by cases hg; exact Nat.le_refl _⟩⟩
      case round =>
        obtain ⟨k, a, m, c, b, l, hk, rfl, rfl, HLK, HS, HK, HF⟩ := hrel
        have f0 := HK.out.cell E0.out fun h => h
        have f1 := HK.out.cell E1.out fun h => h
        have R1 : Kp _ := ⟨H1.out.keep HK.out fun _ _ h => h⟩
        have R2 : Kp _ := ⟨H2.out.keep HK.out fun _ _ h => h⟩
        have hk' : k = 0 ∨ k = 1 ∨ k = 2 := by omega
        have hxl : (vstr xs).length = n1 * 1 := H1.out.len
        have hyl : (vstr ys).length = n2 * 1 := H2.out.len
        have hml := HS.out.len
        rw [vstr_length, Nat.mul_one] at hxl hyl hml
        rcases hk' with rfl | rfl | rfl
        · have hl : l = [] := HLK.out
          subst hl
          have hm0 : m = 0 := by simpa using hml.symm
          subst hm0
          clear hml hxl hyl
          go_wp2_with (at_builtin
                       refine wpList_append_rd rfl _ _ 22 rfl 9 _ 1 16 Tryz.underlying22 info_str rfl (by decide) HS.out rfl R1.out rfl (by omega) (by omega) ?_
                       intro a3 c3 b3 w3 s3 k3 f3
                       have S3 : Kp _ := ⟨s3⟩
                       have K3 : Kp _ := ⟨k3⟩
                       have F3 : Kp _ := ⟨f3⟩
                       clear s3 k3 f3)
          have K4 : Kp (Keep w NoB w3) := ⟨HK.out.trans (K3.out.mono (G := Opt b) fun _ h => h) fun g hg => .inr (HF.out g hg)⟩
          have F4 : Kp (∀ g, b3 = some g → w.heap.size ≤ g) := ⟨fun g hg => (F3.out g hg).elim (fun h => HF.out g h) fun h => Nat.le_trans HK.out.size h⟩
          go_roundw
          case rel => exact ⟨1, _, _, _, _, xs, by omega, rfl, rfl, ⟨rfl⟩, ⟨by have := S3.out; rw [Nat.zero_add] at this; simpa [vstr] using this⟩, K4, F4⟩
          case measure => simp [intOf]
        · have hl : l = xs := HLK.out
          subst hl
          have hm0 : m = n1 := by omega
          subst hm0
          clear hml hxl hyl
          go_wp2_with (at_builtin
                       refine wpList_append_rd rfl _ _ 22 rfl 9 _ 1 16 Tryz.underlying22 info_str rfl (by decide) HS.out rfl R2.out rfl (by omega) (by omega) ?_
                       intro a3 c3 b3 w3 s3 k3 f3
                       have S3 : Kp _ := ⟨s3⟩
                       have K3 : Kp _ := ⟨k3⟩
                       have F3 : Kp _ := ⟨f3⟩
                       clear s3 k3 f3)
          have K4 : Kp (Keep w NoB w3) := ⟨HK.out.trans (K3.out.mono (G := Opt b) fun _ h => h) fun g hg => .inr (HF.out g hg)⟩
          have F4 : Kp (∀ g, b3 = some g → w.heap.size ≤ g) := ⟨fun g hg => (F3.out g hg).elim (fun h => HF.out g h) fun h => Nat.le_trans HK.out.size h⟩
          go_roundw
          case rel => exact ⟨2, _, _, _, _, l ++ ys, by omega, rfl, rfl, ⟨rfl⟩, ⟨by have := S3.out; simpa [vstr] using this⟩, K4, F4⟩
          case measure => simp [intOf]
        · have hl : l = xs ++ ys := HLK.out
          have hm0 : m = n1 + n2 := by rw [hl, List.length_append] at hml; omega
          subst hm0
          subst hl
          clear hml hxl hyl
          go_wp2_with fail
          go_ret
          exact ⟨_, _, _, rfl, HS.out, HK.out, HF.out⟩

end Go.Proofs

/- The walk of the law EditYanks. -/
namespace Go.Proofs
open Go.RowKit Go.Em

theorem slice_str (ad : Addr) {n c i m : Nat} (h1 : i + m ≤ n) (h2 : n ≤ c) (hci : i < c) (W : World) {x y : Int} (hx : x = (i : Int)) (hy : y = (i : Int) + (m : Int)) :
    (Instr.slice 22 (.slice (some ad) n c) (some (.int .i64 x)) (some (.int .i64 y)) none).run Tryz.prog W = .ok (.slice (some (ad.add i)) m (c - i)) W := by
  subst hx; subst hy
  have hci' : ¬ c = i := by omega
  go_simp
  rw [if_pos ⟨by omega, by omega⟩, if_pos (by omega), show ((i : Int) + (m : Int)).toNat - i = m by omega]

set_option maxRecDepth 100000 in
set_option maxHeartbeats 2000000 in
theorem yanks_known {w : World} {a : Option Addr} {n c : Nat} {xs : List ByteArray} (hr : Rd w 1 a n (vstr xs)) (hn : n < 9223372036854775807) (hw : weigh xs < 9223372036854775807) (fr tt name : Int) (h : (300 < n ∨ 6000 < weigh xs) ∨ n = 0) :
    Calls Tryz.prog 5 #[.slice a n c, .int .i64 fr, .int .i64 tt, .int .u8 name] w fun e w' => e = .returned (.bool true) ∧ Keep w NoB w' := by
  have HR : Kp _ := ⟨hr⟩
  clear hr
  by_cases hh : 300 < n ∨ 6000 < weigh xs
  · have hd : decide (300 < n ∨ 6000 < weigh xs ∨ 30 < 0) = true := by simpa [or_assoc] using hh
    clear h hh
    go_enter Tryz.func5, Tryz.ntmps5
    go_wp2_with fail
    refine (heavy_calls HR.out hn hw).mono ?_
    rintro e w' ⟨rfl, rfl⟩
    rw [hd]
    go_wp2_with ((with_reducible refine (known_calls _).mono ?_)
                 rintro e w' ⟨rfl, hb⟩
                 have HB : Kp _ := ⟨hb⟩
                 clear hb)
    go_ret
    exact ⟨rfl, Keep.of_below HB.out _⟩
  · have h0 : n = 0 := h.resolve_left hh
    subst h0
    have hd : decide (300 < 0 ∨ 6000 < weigh xs ∨ 30 < 0) = false := by simp at hh ⊢; omega
    clear h hh
    go_enter Tryz.func5, Tryz.ntmps5
    go_wp2_with fail
    refine (heavy_calls HR.out hn hw).mono ?_
    rintro e w' ⟨rfl, rfl⟩
    rw [hd]
    go_wp2_with ((with_reducible refine (known_calls _).mono ?_)
                 rintro e w' ⟨rfl, hb⟩
                 have HB : Kp _ := ⟨hb⟩
                 clear hb)
    go_ret
    exact ⟨rfl, Keep.of_below HB.out _⟩

set_option maxRecDepth 100000 in
set_option maxHeartbeats 2000000 in
theorem yanks_long {w : World} {a : Option Addr} {n c : Nat} {xs : List ByteArray} (hr : Rd w 1 a n (vstr xs)) (h0 : 0 < n) (hn : n ≤ 300) (hw : weigh xs ≤ 6000) (hl : isLong xs = true) (fr tt name : Int) :
    Calls Tryz.prog 5 #[.slice a n c, .int .i64 fr, .int .i64 tt, .int .u8 name] w fun e w' => e = .returned (.bool true) ∧ Keep w NoB w' := by
  have HR : Kp _ := ⟨hr⟩
  have HL : Kp _ := ⟨hl⟩
  clear hr hl
  have hd : decide (300 < n ∨ 6000 < weigh xs ∨ 30 < 0) = false := by simp; omega
  have hn0 : ¬ ((n : Int) = 0) := by omega
  go_enter Tryz.func5, Tryz.ntmps5
  go_wp2_with fail
  refine (heavy_calls HR.out (by omega) (by omega)).mono ?_
  rintro e w' ⟨rfl, rfl⟩
  rw [hd]
  clear hw
  go_wp2_with ((with_reducible refine (known_calls _).mono ?_)
               rintro e w1 ⟨rfl, hb⟩
               have HB : Kp _ := ⟨Keep.of_below hb NoB⟩
               clear hb)
  refine (new_buf_long (HR.out.keep HB.out fun _ _ h => h) (by omega) HL.out (by omega) (by omega)).mono ?_
  rintro e w2 ⟨rfl, k2⟩
  have K2 : Kp (Keep w NoB w2) := ⟨HB.out.trans k2 (Fresh.refl _ _)⟩
  clear k2
  go_wp2_with fail
  refine (new_regs w2).mono ?_
  rintro e w3 ⟨rb, G, rfl, r3, k3, f3⟩
  have K3 : Kp (Keep w NoB w3) := ⟨K2.out.trans k3 (Fresh.refl _ _)⟩
  clear r3 k3 f3
  go_wp2_with fail
  go_ret
  exact ⟨rfl, K3.out⟩

set_option maxRecDepth 100000 in
set_option maxHeartbeats 4000000 in
theorem yanks_ok {w : World} {a : Option Addr} {n c : Nat} {xs : List ByteArray} (hr : Rd w 1 a n (vstr xs)) (hc : n ≤ c) (hcm : c ≤ 9223372036854775807) (h0 : 0 < n) (hn : n ≤ 300) (hw : weigh xs ≤ 6000) (hl : isLong xs = false) (fr tt name : Int) (hnm0 : 0 ≤ name) (hnm1 : name < 256) :
    Calls Tryz.prog 5 #[.slice a n c, .int .i64 fr, .int .i64 tt, .int .u8 name] w fun e w' => e = .returned (.bool true) ∧ Keep w NoB w' := by
  have HR : Kp _ := ⟨hr⟩
  have HL : Kp _ := ⟨hl⟩
  have HW : Kp _ := ⟨hw⟩
  have HC : Kp _ := ⟨hc⟩
  have HCM : Kp _ := ⟨hcm⟩
  have hd : decide (300 < n ∨ 6000 < weigh xs ∨ 30 < 0) = false := by simp; omega
  clear hr hl hw hc hcm
  have hn0 : ¬ ((n : Int) = 0) := by omega
  go_enter Tryz.func5, Tryz.ntmps5
  go_wp2_with fail
  refine (heavy_calls HR.out (by omega) (by have := HW.out; omega)).mono ?_
  rintro e w' ⟨rfl, rfl⟩
  rw [hd]
  clear hd
  go_wp2_with ((with_reducible refine (known_calls _).mono ?_)
               rintro e w1 ⟨rfl, hb⟩
               have HB : Kp _ := ⟨Keep.of_below hb NoB⟩
               clear hb)
  refine (new_buf (HR.out.keep HB.out fun _ _ h => h) (by omega) HC.out HCM.out HL.out (by omega) (by omega)).mono ?_
  rintro e w2 ⟨bb, S, F, FS, rfl, b2, l2, a2, m2, o2, -, -, f2, -, k2⟩
  have K2 : Kp (Keep w NoB w2) := ⟨HB.out.trans k2 (Fresh.refl _ _)⟩
  have B2 : Kp _ := ⟨b2⟩
  have F2 : Kp (∀ b, F b → w.heap.size ≤ b) := ⟨fun b hb => Nat.le_trans HB.out.size (f2 b hb)⟩
  have L2 : Kp _ := ⟨l2⟩
  clear b2 l2 a2 m2 o2 f2 k2
  go_wp2_with fail
  refine (new_regs w2).mono ?_
  rintro e w3 ⟨rb, G, rfl, r3, k3, f3⟩
  have K3 : Kp (Keep w NoB w3) := ⟨K2.out.trans k3 (Fresh.refl _ _)⟩
  have B3 : Kp _ := ⟨B2.out.keep k3 fun _ _ h => h⟩
  have R3 : Kp _ := ⟨r3⟩
  have D3 : Kp (Dis F G) := ⟨fun b hF hG => by have := B2.out.lt b hF; have := f3 b hG; omega⟩
  have G3 : Kp (∀ b, G b → w.heap.size ≤ b) := ⟨fun b hb => Nat.le_trans K2.out.size (f3 b hb)⟩
  clear r3 k3 f3
  obtain ⟨i, hi⟩ : ∃ i : Nat, max fr 0 % (n : Int) = (i : Int) := ⟨(max fr 0 % (n : Int)).toNat, by have := Int.emod_nonneg (max fr 0) (b := (n : Int)) (by omega); omega⟩
  have hi2 : (i : Int) < (n : Int) := by rw [← hi]; exact Int.emod_lt_of_pos _ (by omega)
  have hib : max fr 0 % (n : Int) < 1000 := by omega
  have hib0 : 0 ≤ max fr 0 % (n : Int) := by omega
  have hmd : 0 < (n : Int) - (1 + max fr 0 % (n : Int)) + 1 := by omega
  have hmd0 : ¬ ((n : Int) - (1 + max fr 0 % (n : Int)) + 1 = 0) := by omega
  obtain ⟨m, hm⟩ : ∃ m : Nat, max tt 0 % ((n : Int) - (1 + max fr 0 % (n : Int)) + 1) = (m : Int) := ⟨(max tt 0 % ((n : Int) - (1 + max fr 0 % (n : Int)) + 1)).toNat, by have := Int.emod_nonneg (max tt 0) hmd0; omega⟩
  have hm2 : (m : Int) < (n : Int) - (1 + max fr 0 % (n : Int)) + 1 := by rw [← hm]; exact Int.emod_lt_of_pos _ hmd
  have hmb : max tt 0 % ((n : Int) - (1 + max fr 0 % (n : Int)) + 1) < 1000 := by omega
  have hmb0 : 0 ≤ max tt 0 % ((n : Int) - (1 + max fr 0 % (n : Int)) + 1) := by omega
  have HFR : Kp (1 + max fr 0 % (n : Int) = (i : Int) + 1) := ⟨by omega⟩
  have HTO : Kp (1 + max fr 0 % (n : Int) + max tt 0 % ((n : Int) - (1 + max fr 0 % (n : Int)) + 1) = (i : Int) + ((m + 1 : Nat) : Int)) := ⟨by omega⟩
  have HIM : Kp (i + (m + 1) ≤ n) := ⟨by omega⟩
  clear hi hi2 hm hm2 hmd
  go_wp2_with fail
  have hxl : xs.length = n := by have := HR.out.len; rw [vstr_length, Nat.mul_one] at this; exact this
  have hbg : S.lines = xs := L2.out.trans (if_neg fun e => by rw [e] at hxl; simp at hxl; omega)
  have hnr : rng 65 90 (97 + name % 26) = false := by
    cases h : rng 65 90 (97 + name % 26) with
    | false => rfl
    | true => have := rng_iff.1 h; omega
  have hkn : knownReg (97 + name % 26) = true := by
    have : rng 97 122 (97 + name % 26) = true := rng_iff.2 (by omega)
    simp [knownReg, this]
  have hwt : weigh ((xs.drop i).take (m + 1)) ≤ 20000 := by
    have h1 := weigh_take (xs.drop i) (m + 1)
    have h2 := weigh_append (xs.take i) (xs.drop i)
    rw [List.take_append_drop] at h2
    have := HW.out
    omega
  have HXL : Kp _ := ⟨hxl⟩
  have HBG : Kp _ := ⟨hbg⟩
  have HNR : Kp _ := ⟨hnr⟩
  have HKN : Kp _ := ⟨hkn⟩
  have HWT : Kp _ := ⟨hwt⟩
  clear hxl hbg hnr hkn hwt
  refine (do_y HFR.out HTO.out B3.out (by rw [HBG.out, HXL.out]; exact HIM.out) (by rw [HBG.out, HXL.out]; omega) R3.out (by omega) (if_neg (by omega)) (by omega) (by omega) HKN.out (by omega) HNR.out (by rw [HBG.out]; exact HWT.out)).mono ?_
  rintro e w4 ⟨G4, rfl, r4, k4, f4⟩
  have R4 : Kp _ := ⟨r4⟩
  have B4 : Kp _ := ⟨B3.out.keep k4 D3.out⟩
  have K4 : Kp (Keep w NoB w4) := ⟨K3.out.trans k4 fun b hb => .inr (G3.out b hb)⟩
  have D4 : Kp (Dis F G4) := ⟨fun b hF hG => (f4 b hG).elim (fun h => D3.out b hF h) fun h => by have := B3.out.lt b hF; omega⟩
  have G4' : Kp (∀ b, G4 b → w.heap.size ≤ b) := ⟨fun b hb => (f4 b hb).elim (fun h => G3.out b h) fun h => Nat.le_trans K3.out.size h⟩
  clear r4 k4 f4
  go_wp2_with fail
  refine (do_p HFR.out HTO.out B4.out (by rw [HBG.out, HXL.out]; exact HIM.out) (by rw [HBG.out, HXL.out]; omega) (by omega)).mono ?_
  rintro e w5 ⟨pa, pc, pb, rfl, s5, b5, k5, f5⟩
  have S5 : Kp _ := ⟨s5⟩
  have B5 : Kp _ := ⟨b5⟩
  have R5 : Kp _ := ⟨R4.out.keep k5 D4.out.symm⟩
  have K5 : Kp (Keep w NoB w5) := ⟨K4.out.trans k5 fun b hb => .inr (F2.out b hb)⟩
  clear s5 b5 k5 f5
  have hget : yankF (fun _ => none) (97 + name % 26) ((S.lines.drop i).take (m + 1), true) (97 + name % 26) = some ((S.lines.drop i).take (m + 1), true) := by
    unfold yankF
    rw [if_neg (by omega)]
    unfold fput
    rw [if_neg (by omega), if_pos rfl]
  have hlen : ((S.lines.drop i).take (m + 1)).length = m + 1 := by rw [List.length_take, List.length_drop, HBG.out, HXL.out]; have := HIM.out; omega
  have r5 := R5.out
  have s5 := S5.out
  obtain ⟨ys, hys⟩ : ∃ ys, (S.lines.drop i).take (m + 1) = ys := ⟨_, rfl⟩
  rw [hys] at hget hlen r5 s5
  have HYS : Kp (ys = (xs.drop i).take (m + 1)) := ⟨by rw [← hys, HBG.out]⟩
  clear R5 S5 hys
  have R5 : Kp _ := ⟨r5⟩
  have S5 : Kp _ := ⟨s5⟩
  have HGET : Kp _ := ⟨hget⟩
  have HLEN : Kp _ := ⟨hlen⟩
  clear hget hlen r5 s5
  go_wp2_with fail
  refine (get_ok R5.out (by omega) (by omega) HKN.out HNR.out HGET.out).mono ?_
  rintro e w6 ⟨ga, gc, gb, rfl, s6, k6, f6⟩
  simp only [HLEN.out] at s6 ⊢
  have S6 : Kp _ := ⟨s6⟩
  have S5' : Kp _ := ⟨S5.out.keep k6 fun _ _ h => h⟩
  have B6 : Kp _ := ⟨B5.out.keep k6 fun _ _ h => h⟩
  have K6 : Kp (Keep w NoB w6) := ⟨K5.out.trans k6 (Fresh.refl _ _)⟩
  clear s6 k6 f6
  rw [HTO.out, HFR.out]
  go_wp2_with fail
  have hx1 : (w6.alloc (.cells #[.slice ga (m + 1) gc, .bool true] 54)).heap[w6.heap.size]? = some (.cells #[.slice ga (m + 1) gc, .bool true] 54 (0, 0)) := heap_alloc_new w6 _
  have hK7 : Keep w6 NoB (w6.alloc (.cells #[.slice ga (m + 1) gc, .bool true] 54)) := (Keep.refl w6 NoB).alloc _
  generalize (w6.alloc (.cells #[.slice ga (m + 1) gc, .bool true] 54)) = V at *
  obtain ⟨tb, kb, oa, on, oc, -, e0, -, -, e7, -, ⟨FT, hT, -, -⟩, -⟩ := (B6.out.keep hK7 fun _ _ h => h).cells
  have c20 : V.cell? ⟨w6.heap.size, 0, none⟩ = some (.slice ga (m + 1) gc) := by rw [cell_blk hx1]; rfl
  have c21 : V.cell? ⟨w6.heap.size, 1, none⟩ = some (.bool true) := by rw [cell_blk hx1]; rfl
  have HTT : Kp _ := ⟨hT⟩
  have hgo : ∀ W, Keep V NoB W → Keep V NoB W ∧ W.cell? ⟨w6.heap.size, 0, none⟩ = some (.slice ga (m + 1) gc) ∧ W.cell? ⟨w6.heap.size, 1, none⟩ = some (.bool true) ∧ W.cell? ⟨bb, 0, none⟩ = some (.pointer (some ⟨tb, 0, none⟩)) :=
    fun W h => ⟨h, h.cell c20 fun h => h, h.cell c21 fun h => h, h.cell e0 fun h => h⟩
  have HGO : Kp _ := ⟨hgo⟩
  have S7 : Kp _ := ⟨S6.out.keep hK7 fun _ _ h => h⟩
  have P7 : Kp _ := ⟨S5'.out.keep hK7 fun _ _ h => h⟩
  have B7 : Kp _ := ⟨B6.out.keep hK7 fun _ _ h => h⟩
  have K7 : Kp (Keep w NoB V) := ⟨K6.out.trans hK7 (Fresh.refl _ _)⟩
  obtain ⟨ad, hae, hsub⟩ := rd_sub (HR.out.keep K7.out fun _ _ h => h) i (m + 1) HIM.out h0
  subst hae
  have HSUB : Kp _ := ⟨hsub⟩
  have hwr : IntKind.i64.wrap ((i : Int) + 1 - 1) = (i : Int) := by rw [show (i : Int) + 1 - 1 = (i : Int) by omega]; exact IntWalk.i64_in _ (by have := HIM.out; omega)
  clear hx1 hK7 hT e0 e7 c20 c21 hgo hsub
  refine wp_region_pl (fun W => Keep V NoB W ∧ W.cell? ⟨w6.heap.size, 0, none⟩ = some (.slice ga (m + 1) gc) ∧ W.cell? ⟨w6.heap.size, 1, none⟩ = some (.bool true) ∧ W.cell? ⟨bb, 0, none⟩ = some (.pointer (some ⟨tb, 0, none⟩)))
    (.run 0 18 (.ac 18 (.run 19 8 (.ac 27 (.run 28 6 (.rd 35 (.ac 34 (.ac 36 (.run 37 3 (.rd 41 (.ac 40 (.run 42 2 (.ac 44 .done))))))))))))) 45 (by kernel_rfl) (by kernel_rfl) (fun _ _ d _ _ h => by cases d <;> exact h) (HGO.out _ (Keep.refl V NoB).drew) ?_
  iterate 16
    (refine' pl_read _ rfl rfl ?_ ?_
     rotate_left
     · (intro W' hW'; (try dsimp only at hW'); obtain ⟨-, q0, q1, q2⟩ := hW'; go_simp; try rfl)
     simp only [Act.put, List.setIfInBounds_toArray, List.set_cons_zero, List.set_cons_succ])
  have hwr2 : IntKind.i64.wrap (i : Int) = (i : Int) := IntWalk.i64_in _ (by have := HIM.out; omega)
  have hsl : ∀ W, (Instr.slice 22 (.slice (some ad) n c) (some (.int .i64 (i : Int))) (some (.int .i64 ((i : Int) + ((m : Int) + 1)))) none).run Tryz.prog W = .ok (.slice (some (ad.add i)) (m + 1) (c - i)) W :=
    fun W => slice_str ad (n := n) HIM.out HC.out (by have := HIM.out; have := HC.out; omega) W rfl (by omega)
  refine' pl_read (v := .slice (some (ad.add i)) (m + 1) (c - i)) _ rfl rfl ?_ ?_
  · intro W' hW'
    clear hW'
    have hs := hsl W'
    go_simp
    try rfl
  simp only [Act.put, List.setIfInBounds_toArray, List.set_cons_zero, List.set_cons_succ]
  iterate 1
    (refine' pl_read _ rfl rfl ?_ ?_
     rotate_left
     · (intro W' hW'; (try dsimp only at hW'); go_simp; try rfl)
     simp only [Act.put, List.setIfInBounds_toArray, List.set_cons_zero, List.set_cons_succ])
  refine pl_do _ rfl ?_
  go_wp2_with fail
  refine (same_reg (Rd.of_sl (S7.out.keep (Keep.refl V NoB).drew fun _ _ h => h) (vstr_one _)) (HSUB.out.keep (Keep.refl V NoB).drew fun _ _ h => h) (by have := HIM.out; omega)).mono ?_
  rintro e w8 ⟨rfl, k8⟩
  rw [show regSame ys ((xs.drop i).take (m + 1)) true true = true by rw [← HYS.out]; exact regSame_self _ _]
  have K8 : Kp (Keep V NoB w8) := ⟨(Keep.refl V NoB).drew.trans k8 (Fresh.refl _ _)⟩
  clear k8
  go_wp2_with fail
  refine ⟨HGO.out _ K8.out, ?_⟩
  iterate 7
    (refine' pl_read _ rfl rfl ?_ ?_
     rotate_left
     · (intro W' hW'; (try dsimp only at hW'); obtain ⟨-, q0, q1, q2⟩ := hW'; go_simp; try rfl)
     simp only [Act.put, List.setIfInBounds_toArray, List.set_cons_zero, List.set_cons_succ])
  refine' pl_read (v := .slice (some (ad.add i)) (m + 1) (c - i)) _ rfl rfl ?_ ?_
  · intro W' hW'
    clear hW'
    have hs := hsl W'
    go_simp
    try rfl
  simp only [Act.put, List.setIfInBounds_toArray, List.set_cons_zero, List.set_cons_succ]
  clear hsl hwr hwr2
  refine pl_do _ rfl ?_
  go_wp2_with fail
  refine (same_calls (Rd.of_sl (P7.out.keep K8.out fun _ _ h => h) (vstr_one _)) (HSUB.out.keep K8.out fun _ _ h => h) (by have := HIM.out; omega)).mono ?_
  rintro e w9 ⟨rfl, q9, rfl⟩
  rw [show decide (ys = (xs.drop i).take (m + 1)) = true from decide_eq_true HYS.out]
  have K9 : Kp (Keep V NoB (w8.drewN q9)) := ⟨K8.out.drewN q9⟩
  generalize w8.drewN q9 = w9 at *
  go_wp2_with fail
  refine ⟨HGO.out _ K9.out, ?_⟩
  iterate 7
    (refine' pl_read _ rfl rfl ?_ ?_
     rotate_left
     · (intro W' hW'; (try dsimp only at hW'); obtain ⟨-, q0, q1, q2⟩ := hW'; go_simp; try rfl)
     simp only [Act.put, List.setIfInBounds_toArray, List.set_cons_zero, List.set_cons_succ])
  refine pl_do _ rfl ?_
  go_wp2_with fail
  refine (lines_text (HTT.out.keep K9.out fun _ _ h => h)).mono ?_
  rintro e w10 ⟨la, lc, lb, rfl, s10, k10, f10⟩
  have S10 : Kp _ := ⟨s10⟩
  have K10 : Kp (Keep V NoB w10) := ⟨K9.out.trans k10 (Fresh.refl _ _)⟩
  clear s10 k10 f10
  go_wp2_with fail
  refine ⟨HGO.out _ K10.out, ?_⟩
  refine pl_do _ rfl ?_
  go_wp2_with fail
  refine (same_calls (Rd.of_sl S10.out (vstr_one _)) (HR.out.keep (K7.out.trans K10.out (Fresh.refl _ _)) fun _ _ h => h) (by rw [HBG.out, HXL.out]; omega)).mono ?_
  rintro e w11 ⟨rfl, q11, rfl⟩
  rw [show decide (S.lines = xs) = true from decide_eq_true HBG.out]
  have K11 : Kp (Keep V NoB (w10.drewN q11)) := ⟨K10.out.drewN q11⟩
  generalize w10.drewN q11 = w11 at *
  go_wp2_with fail
  refine ⟨HGO.out _ K11.out, ?_⟩
  iterate 4
    (refine' pl_read _ rfl rfl ?_ ?_
     rotate_left
     · (intro W' hW'; (try dsimp only at hW'); obtain ⟨-, q0, q1, q2⟩ := hW'; go_simp; try rfl)
     simp only [Act.put, List.setIfInBounds_toArray, List.set_cons_zero, List.set_cons_succ])
  refine pl_do _ rfl ?_
  go_wp2_with fail
  refine (cursor_buf (B7.out.keep K11.out fun _ _ h => h)).mono ?_
  rintro e w12 ⟨rfl, rfl⟩
  go_wp2_with fail
  refine ⟨HGO.out _ K11.out, ?_⟩
  iterate 2
    (refine' pl_read _ rfl rfl ?_ ?_
     rotate_left
     · (intro W' hW'; (try dsimp only at hW'); obtain ⟨-, q0, q1, q2⟩ := hW'; go_simp; try rfl)
     simp only [Act.put, List.setIfInBounds_toArray, List.set_cons_zero, List.set_cons_succ])
  refine pl_do _ rfl ?_
  go_wp2_with fail
  refine ⟨HGO.out _ K11.out, ?_⟩
  refine pl_end ?_
  simp only [List.drop_succ_cons, List.drop_nil]
  go_wp2_with fail
  go_ret
  exact ⟨by first | rfl | (simp; have := HTO.out; omega), K7.out.trans K11.out (Fresh.refl _ _)⟩

/-- EditYanks is true. -/
theorem yanks_calls {w : World} {a : Option Addr} {n c : Nat} {xs : List ByteArray} (hr : Rd w 1 a n (vstr xs)) (hc : n ≤ c) (hcm : c ≤ 9223372036854775807) (hn : n ≤ 1048576) (hw : weigh xs ≤ 9000000) (fr tt name : Int) (hnm0 : 0 ≤ name) (hnm1 : name < 256) :
    Calls Tryz.prog 5 #[.slice a n c, .int .i64 fr, .int .i64 tt, .int .u8 name] w fun e w' => e = .returned (.bool true) ∧ Keep w NoB w' := by
  by_cases h : (300 < n ∨ 6000 < weigh xs) ∨ n = 0
  · exact yanks_known hr (by omega) (by omega) fr tt name h
  · have h1 : 0 < n := by omega
    have h2 : n ≤ 300 := by omega
    have h3 : weigh xs ≤ 6000 := by omega
    cases hl : isLong xs with
    | true => exact yanks_long hr h1 h2 h3 hl fr tt name
    | false => exact yanks_ok hr hc hcm h1 h2 h3 hl fr tt name hnm0 hnm1

end Go.Proofs

/- The walk of marks.each, Splice, Move where there are none. -/
namespace Go.Proofs
open Go.RowKit Go.Em

def noMarks : Int → Option Int := fun _ => none

theorem map_none {w : World} {b : Nat} (h : MapIs w b .u8 fun c => (noMarks c).map (.int .i64)) : ∃ clock, w.heap[b]? = some (.map #[] clock) := by
  obtain ⟨es, clock, hb, hs, hks, hf⟩ := h
  cases hes : es.toList with
  | nil =>
    have : es = #[] := by cases es; simpa using hes
    subst this
    exact ⟨clock, hb⟩
  | cons e l =>
    obtain ⟨k, hk⟩ := isKey_int (hks e (by rw [hes]; exact List.mem_cons_self ..))
    have h1 := hf k
    unfold mget at h1
    rw [hes] at h1
    simp [hk, kIs_self, noMarks] at h1

set_option maxRecDepth 100000 in
theorem each_none {w : World} {kb : Nat} {G : Blocks} (h : KMem w kb noMarks G) (f : Value) :
    Calls Tryz.prog 147 #[.pointer (some ⟨kb, 0, none⟩), f] w fun e w' => e = .returned (.tuple #[]) ∧ Keep w NoB w' := by
  have hkl := h.lt
  obtain ⟨mb, h0, h1, h2, h3⟩ := h
  obtain ⟨clock, hb⟩ := map_none h2
  have e0 : w.cell? ⟨kb, 0, none⟩ = some (.map (some mb)) := by rw [cell_blk h1]; rfl
  have hg := Go.MapKept.run_getObj_map (P := Tryz.prog) hb
  clear h1 h2 h3 h0 hkl
  go_enter Tryz.func147, Tryz.ntmps147
  have hrg : (Instr.range 98 (.map (some mb))).run Tryz.prog w = .ok (.pointer (some ⟨w.heap.size, 0, none⟩)) (w.alloc (.mapIter (some mb) clock #[] clock)) := by
    simp [Instr.range, run_underlying Tryz.underlying98, hg, Result.andThen]
  have hr1 : (w.alloc (.mapIter (some mb) clock #[] clock)).heap[w.heap.size]? = some (.mapIter (some mb) clock #[] clock) := heap_alloc_new w _
  have hr2 : (w.alloc (.mapIter (some mb) clock #[] clock)).heap[mb]? = some (.map #[] clock) := ((Keep.refl w NoB).alloc _).blk hb fun h => h
  have hnx : ∀ ty, (Instr.next (.pointer (some ⟨w.heap.size, 0, none⟩)) false ty).run Tryz.prog (w.alloc (.mapIter (some mb) clock #[] clock)) = .ok (.tuple #[.bool false]) (w.alloc (.mapIter (some mb) clock #[] clock)) := by
    intro ty
    rcases run_next_at (P := Tryz.prog) _ ty _ _ _ _ _ _ _ hr1 hr2 (by simp) (Nat.le_refl _) with h | ⟨e, he, _⟩
    · exact h.2
    · simp [leftOf] at he
  have HK : Kp (Keep w NoB (w.alloc (.mapIter (some mb) clock #[] clock))) := ⟨(Keep.refl w NoB).alloc _⟩
  clear hr1 hr2 hg hb
  go_wp2_with fail
  clear hrg
  generalize (w.alloc (.mapIter (some mb) clock #[] clock)) = W at *
  go_loopw [11] (fun _ wr => W = wr) (fun _ _ => 0)
  case atStart => rfl
  case round =>
    subst hrel
    go_wp2_with fail
    refine bodyPost_end (results_none rfl _ _ _) rfl ?_
    exact ⟨rfl, HK.out⟩

set_option maxRecDepth 100000 in
set_option maxHeartbeats 1000000 in
theorem spliceM_none {w : World} {kb : Nat} {G : Blocks} (h : KMem w kb noMarks G) {l n m : Int} (hl : 1 ≤ l) (hl2 : l ≤ 100000) (hn : 0 ≤ n) (hn2 : n ≤ 100000) (hm : 0 ≤ m) (hm2 : m ≤ 100000) :
    Calls Tryz.prog 143 #[.pointer (some ⟨kb, 0, none⟩), .int .i64 l, .int .i64 n, .int .i64 m] w fun e w' => e = .returned (.tuple #[]) ∧ Keep w NoB w' := by
  have hK3 : Keep w NoB (((w.alloc (.cells #[.int .i64 l] 3)).alloc (.cells #[.int .i64 n] 3)).alloc (.cells #[.int .i64 m] 3)) := (((Keep.refl w NoB).alloc _).alloc _).alloc _
  have HK : Kp _ := ⟨hK3⟩
  have H : Kp _ := ⟨h.keep hK3 fun _ _ h => h⟩
  clear h hK3
  go_enter Tryz.func143, Tryz.ntmps143
  go_wp2_with fail
  all_goals
    refine (each_none H.out _).mono ?_
    rintro e w' ⟨rfl, k⟩
    have K : Kp _ := ⟨k⟩
    clear k
    go_wp2_with fail
    exact bodyPost_end (results_none rfl _ _ _) rfl ⟨rfl, HK.out.trans K.out (Fresh.refl _ _)⟩

set_option maxRecDepth 100000 in
set_option maxHeartbeats 1000000 in
theorem moveM_none {w : World} {kb : Nat} {G : Blocks} (h : KMem w kb noMarks G) {l n m : Int} (hl : 1 ≤ l) (hl2 : l ≤ n) (hn2 : n ≤ 100000) (hm : 0 ≤ m) (hm2 : m ≤ 100000) (hc : m < l - 1 ∨ n < m) :
    Calls Tryz.prog 114 #[.pointer (some ⟨kb, 0, none⟩), .int .i64 l, .int .i64 n, .int .i64 m] w fun e w' => e = .returned (.tuple #[]) ∧ Keep w NoB w' := by
  have hK3 : Keep w NoB (((w.alloc (.cells #[.int .i64 l] 3)).alloc (.cells #[.int .i64 n] 3)).alloc (.cells #[.int .i64 m] 3)) := (((Keep.refl w NoB).alloc _).alloc _).alloc _
  have HK : Kp _ := ⟨hK3⟩
  have HK4 : Kp _ := ⟨hK3.alloc (.cells #[.int .i64 (n - l + 1)] 3)⟩
  have H : Kp _ := ⟨h.keep (hK3.alloc (.cells #[.int .i64 (n - l + 1)] 3)) fun _ _ h => h⟩
  clear h hK3
  have hl3 : ¬ l < 1 := by omega
  have hl4 : ¬ n < l := by omega
  have hl5 : ¬ m < 0 := by omega
  rcases hc with hc | hc
  · have hc2 : ¬ l - 1 ≤ m := by omega
    go_enter Tryz.func114, Tryz.ntmps114
    go_wp2_with fail
    refine (each_none H.out _).mono ?_
    rintro e w' ⟨rfl, k⟩
    have K : Kp _ := ⟨k⟩
    clear k
    go_wp2_with fail
    exact bodyPost_end (results_none rfl _ _ _) rfl ⟨rfl, HK4.out.trans K.out (Fresh.refl _ _)⟩
  · have hc2 : ¬ m ≤ n := by omega
    have hc3 : l - 1 ≤ m := by omega
    go_enter Tryz.func114, Tryz.ntmps114
    go_wp2_with fail
    refine (each_none H.out _).mono ?_
    rintro e w' ⟨rfl, k⟩
    have K : Kp _ := ⟨k⟩
    clear k
    go_wp2_with fail
    exact bodyPost_end (results_none rfl _ _ _) rfl ⟨rfl, HK4.out.trans K.out (Fresh.refl _ _)⟩

end Go.Proofs

/- The walk of buf.change. -/
namespace Go.Proofs
open Go.RowKit Go.Em

theorem info_delta : (Tryz.prog.info? 187).map (fun i => (i.zero, i.size, i.bytes)) = some (some (.agg #[.int .i64 0, .slice none 0 0, .slice none 0 0]), 3, 56) := by kernel_rfl

/-- What stands behind a change: the text with lines put in the place of others, and what was changed. -/
def ChangePost (w : World) (bb : Nat) (S : BS) (F : Blocks) (i n m c : Nat) (a : Option Addr) (ls : List ByteArray) (w' : World) : Prop :=
  ∃ (F' : Blocks) (pa : Option Addr) (pc : Nat) (pb : Option Nat),
    BMem w' bb { S with lines := S.lines.take i ++ ls ++ S.lines.drop (i + n), opens := S.opens ++ [.int .i64 (i : Int), .slice pa n pc, .slice a m c] } F' ∧ Keep w F w' ∧ Fresh w F F' ∧
      Sl w' 9 1 pa n pc (vstr ((S.lines.drop i).take n)) pb ∧ ∀ g, pb = some g → w.heap.size ≤ g ∧ ¬ F' g

set_option maxRecDepth 100000 in
set_option maxHeartbeats 2000000 in
theorem change_buf {w : World} {bb : Nat} {S : BS} {F : Blocks} (h : BMem w bb S F) {i n m c : Nat} {a : Option Addr} {ls : List ByteArray} {line num : Int} (hline : line = (i : Int) + 1) (hnum : num = (n : Int)) (hi : i + n ≤ S.lines.length) (hr : Rd w 1 a m (vstr ls)) (hmc : m ≤ c) (hcm : c ≤ 9223372036854775807)
    (hout : ∀ ad, a = some ad → ¬ F ad.block) (hlim : S.lines.length - n + m ≤ 100000) (hop : S.opens.length ≤ 3000000) :
    Calls Tryz.prog 112 #[.pointer (some ⟨bb, 0, none⟩), .int .i64 line, .int .i64 num, .slice a m c] w fun e w' => e = .returned (.tuple #[]) ∧ ChangePost w bb S F i n m c a ls w' := by
  subst hline
  subst hnum
  have HLT : Kp _ := ⟨h.lt⟩
  obtain ⟨tb, kb, oa, on, oc, ob, FT, FK, h1, h2, h3, h4, h5, h6, h7, h8, h9, h10⟩ := h
  have c0 : w.cell? ⟨bb, 0, none⟩ = some (.pointer (some ⟨tb, 0, none⟩)) := by rw [cell_blk h1]; rfl
  have hmost := h2.most
  have hib : (i : Int) < 1000000 := by omega
  have HI : Kp _ := ⟨hi⟩
  have HR : Kp _ := ⟨hr⟩
  have HMC : Kp _ := ⟨hmc⟩
  have HCM : Kp _ := ⟨hcm⟩
  have HLIM : Kp _ := ⟨hlim⟩
  have HOP : Kp _ := ⟨hop⟩
  have HOUT : Kp (∀ ad, a = some ad → ¬ FT ad.block) := ⟨fun ad ha hF => hout ad ha ((h10 _).2 (.inr (.inl hF)))⟩
  have H1 : Kp _ := ⟨h1⟩
  have H2 : Kp _ := ⟨h2⟩
  have H3 : Kp _ := ⟨h3⟩
  have H4 : Kp _ := ⟨h4⟩
  have H5 : Kp _ := ⟨h5⟩
  have H6 : Kp _ := ⟨h6⟩
  have H7 : Kp _ := ⟨h7⟩
  have H8 : Kp _ := ⟨h8⟩
  have H9 : Kp _ := ⟨h9⟩
  have H10 : Kp _ := ⟨h10⟩
  clear h1 h2 h3 h4 h5 h6 h7 h8 h9 h10 hi hr hmc hcm hlim hop hout hmost
  go_enter Tryz.func112, Tryz.ntmps112
  go_wp2_with fail
  refine (part_true H2.out HI.out).mono ?_
  rintro e w1 ⟨pa, pc, pb, rfl, s1, k1, f1⟩
  have S1 : Kp _ := ⟨s1⟩
  have K1 : Kp (Keep w NoB w1) := ⟨k1⟩
  have F1 : Kp (∀ g, pb = some g → w.heap.size ≤ g) := ⟨fun g hg => (f1 g hg).resolve_left fun h => h⟩
  have d0 := k1.cell c0 fun h => h
  clear s1 k1 f1 c0
  go_wp2_with fail
  refine (splice_true (H2.out.keep K1.out fun _ _ h => h) HI.out (HR.out.keep K1.out fun _ _ h => h) HMC.out HCM.out HOUT.out HLIM.out).mono ?_
  rintro e w2 ⟨rfl, p2⟩
  have P2 : Kp _ := ⟨p2⟩
  have k02 : Keep w FT w2 := (K1.out.mono fun _ h => h.elim).trans p2.keep (Fresh.refl _ _)
  have b1 := k02.blk H1.out H5.out
  have d6 : w2.cell? ⟨bb, 6, none⟩ = some (.slice oa on oc) := by rw [cell_blk b1]; rfl
  have z6 := free_blk b1 6
  have B1 : Kp _ := ⟨b1⟩
  have K2 : Kp _ := ⟨k02⟩
  have S2 : Kp (Sl w2 9 1 pa n pc (vstr ((S.lines.drop i).take n)) pb) := ⟨S1.out.keep p2.keep fun g hg h => by have := F1.out g hg; have := HLT.out g ((H10.out g).2 (.inr (.inl h))); omega⟩
  have O2 : Kp _ := ⟨H4.out.keep k02 fun g hg => (H9.out g hg).1⟩
  have HS : Kp (w.heap.size ≤ w2.heap.size) := ⟨k02.size⟩
  have hbl : bb < w2.heap.size := (Array.getElem?_eq_some_iff.1 b1).1
  have hlen3 : S.opens.length = on * 3 := H4.out.len
  have hon : on ≤ 1000000 := by have := HOP.out; omega
  have HON : Kp _ := ⟨hon⟩
  clear p2 k02 b1 d0 hlen3 hon
  have hW : (w2.alloc (.cells #[.int .i64 (i : Int), .slice pa n pc, .slice a m c] 187)).heap[w2.heap.size]? = some (.cells #[.int .i64 (i : Int), .slice pa n pc, .slice a m c] 187 (0, 0)) := heap_alloc_new w2 _
  have hRD : Rd (w2.alloc (.cells #[.int .i64 (i : Int), .slice pa n pc, .slice a m c] 187)) 3 (some ⟨w2.heap.size, 0, none⟩) 1 [.int .i64 (i : Int), .slice pa n pc, .slice a m c] := by
    refine ⟨rfl, fun j u hj => ⟨⟨w2.heap.size, 0, none⟩, rfl, ?_⟩, fun u hu => ?_⟩
    · rw [Addr.add_lit, Nat.zero_add, cell_blk hW]; simpa using hj
    · simp at hu; rcases hu with rfl | rfl | rfl <;> rfl
  have HRD : Kp _ := ⟨hRD⟩
  have O3 : Kp _ := ⟨O2.out.keep ((Keep.refl w2 NoB).alloc (.cells #[.int .i64 (i : Int), .slice pa n pc, .slice a m c] 187)) fun _ _ h => h⟩
  clear hW hRD
  go_wp2_with (at_builtin
               refine wpList_append_rd rfl _ _ 44 rfl 187 _ 3 56 Tryz.underlying44 info_delta rfl (by decide) O3.out rfl HRD.out rfl (by have := HON.out; omega) (by have := HON.out; omega) ?_
               intro a3 c3 b3 w3 s3 k3 f3
               have S3 : Kp _ := ⟨s3⟩
               have K3 : Kp _ := ⟨k3⟩
               have F3 : Kp _ := ⟨f3⟩
               have g3 := k3.blk (((Keep.refl w2 NoB).alloc _).blk B1.out fun h => h) (fun h => H7.out h)
               have d6' : w3.cell? ⟨bb, 6, none⟩ = some (.slice oa on oc) := by rw [cell_blk g3]; rfl
               have z6' := free_blk g3 6
               have G3 : Kp _ := ⟨g3⟩
               clear s3 k3 f3 g3)
  refine bodyPost_end (results_none rfl _ _ _) rfl ?_
  refine ⟨rfl, ?_⟩
  have hg := Go.Em.heap_setCell_same G3.out 6 (.slice a3 (on + 1) c3)
  have kA : Keep w2 NoB (w2.alloc (.cells #[.int .i64 (i : Int), .slice pa n pc, .slice a m c] 187)) := (Keep.refl w2 NoB).alloc _
  have sA : (w2.alloc (.cells #[.int .i64 (i : Int), .slice pa n pc, .slice a m c] 187)).heap.size = w2.heap.size + 1 := by simp
  generalize (w2.alloc (.cells #[.int .i64 (i : Int), .slice pa n pc, .slice a m c] 187)) = wa at *
  have kV : Keep w3 (One bb) (w3.setCell ⟨bb, 6, none⟩ (.slice a3 (on + 1) c3)) := (Keep.refl w3 (One bb)).setCell (a := ⟨bb, 6, none⟩) (.inl rfl) _
  generalize (w3.setCell ⟨bb, 6, none⟩ (.slice a3 (on + 1) c3)) = V at *
  have hT2 := P2.out.text
  have hFT : ∀ b, FT b → b < w.heap.size := fun b hb => HLT.out b ((H10.out b).2 (.inr (.inl hb)))
  have hFK : ∀ b, FK b → b < w.heap.size := fun b hb => HLT.out b ((H10.out b).2 (.inr (.inr (.inl hb))))
  have hob : ∀ b, ob = some b → b < w.heap.size := fun b hb => HLT.out b ((H10.out b).2 (.inr (.inr (.inr hb))))
  have hbb : bb < w.heap.size := HLT.out bb ((H10.out bb).2 (.inl rfl))
  have hs1 := K1.out.size
  have hs2 := P2.out.keep.size
  have hs3 := K3.out.size
  have hb3 : ∀ g, b3 = some g → ob = some g ∨ w2.heap.size + 1 ≤ g := fun g hg => by
    rcases F3.out g hg with h | h
    · exact .inl h
    · exact .inr (by omega)
  have k23 : Keep w2 (Opt ob) w3 := (kA.mono fun _ h => h.elim).trans K3.out (Fresh.refl _ _)
  have k2V : Keep w2 (Or2 (Opt ob) (One bb)) V := (k23.mono fun _ h => .inl h).trans (kV.mono fun _ h => .inr h) (Fresh.refl _ _)
  have kwV : Keep w F V := by
    refine (K2.out.mono fun b hb => (H10.out b).2 (.inr (.inl hb))).trans (k2V.mono fun b hb => ?_) (Fresh.refl _ _)
    rcases hb with h | h
    · exact (H10.out b).2 (.inr (.inr (.inr h)))
    · exact (H10.out b).2 (.inl h)
  refine ⟨fun b => b = bb ∨ Ext FT w1 w2 b ∨ FK b ∨ b3 = some b, pa, pc, pb, ⟨tb, kb, a3, on + 1, c3, b3, Ext FT w1 w2, FK, hg, hT2.keep k2V ?_, (H3.out.keep K2.out fun b hb hT => H8.out b hT hb).keep k2V ?_, S3.out.keep kV ?_, ?_, H6.out, ?_, ?_, ?_, fun b => Iff.rfl⟩, kwV, ?_, S2.out.keep k2V ?_, ?_⟩
  · rintro b hb (h | h)
    · have h' := hob b h
      rcases hb with hb | hb
      · exact (H9.out b h).1 hb
      · omega
    · cases h
      rcases hb with hb | hb
      · exact H5.out hb
      · omega
  · rintro b hb (h | h)
    · exact (H9.out b h).2 hb
    · cases h; exact H6.out hb
  · rintro g hg h
    cases h
    rcases hb3 _ hg with h | h
    · exact H7.out h
    · omega
  · rintro (h | h)
    · exact H5.out h
    · omega
  · intro h
    rcases hb3 _ h with h | h
    · exact H7.out h
    · omega
  · rintro b (h | h) hK
    · exact H8.out b h hK
    · have := hFK b hK; omega
  · intro g hg
    rcases hb3 _ hg with h | h
    · have h' := hob g h
      refine ⟨?_, (H9.out g h).2⟩
      rintro (h2 | h2)
      · exact (H9.out g h).1 h2
      · omega
    · refine ⟨?_, fun hK => by have := hFK g hK; omega⟩
      rintro (h2 | h2)
      · have := hFT g h2; omega
      · omega
  · rintro b (h | h | h | h)
    · exact .inl ((H10.out b).2 (.inl h))
    · rcases h with h | h
      · exact .inl ((H10.out b).2 (.inr (.inl h)))
      · exact .inr (by omega)
    · exact .inl ((H10.out b).2 (.inr (.inr (.inl h))))
    · rcases hb3 _ h with h | h
      · exact .inl ((H10.out b).2 (.inr (.inr (.inr h))))
      · exact .inr (by omega)
  · rintro g hg (h | h)
    · have := F1.out g hg; have := hob g h; omega
    · cases h; have := F1.out _ hg; omega
  · intro g hg
    have h1 := F1.out g hg
    have h2 := S1.out.lt hg
    refine ⟨h1, ?_⟩
    rintro (h | h | h | h)
    · omega
    · rcases h with h | h
      · have := hFT g h; omega
      · omega
    · have := hFK g h; omega
    · rcases hb3 _ h with h | h
      · have := hob g h; omega
      · omega

end Go.Proofs

/- The walk of buf.Splice, of a text that has no marks. -/
namespace Go.Proofs
open Go.RowKit Go.Em

/-- Lines in the place of others; of no line at all an empty one. -/
def spliced (l : List ByteArray) (i n : Nat) (ls : List ByteArray) : List ByteArray := if n = l.length ∧ ls = [] then [⟨#[]⟩] else l.take i ++ ls ++ l.drop (i + n)

/-- What stands behind a splice. -/
def SplicePost (w : World) (bb : Nat) (S : BS) (F : Blocks) (l : List ByteArray) (w' : World) : Prop :=
  ∃ S' : BS, BPost w F w' bb S' ∧ S'.lines = l ∧ S'.at_ = min (max S.at_ 1) (l.length : Int) ∧ S'.marks = S.marks ∧ S'.opens.length = S.opens.length + 3 ∧ S'.sl = S.sl ∧ S'.sm = S.sm ∧ S'.sc = S.sc ∧ S'.ub = S.ub

set_option maxRecDepth 100000 in
set_option maxHeartbeats 2000000 in
theorem splice_buf {w : World} {bb : Nat} {S : BS} {F : Blocks} (h : BMem w bb S F) (hmk : S.marks = noMarks) {i n m c : Nat} {a : Option Addr} {ls : List ByteArray} {line num : Int} (hline : line = (i : Int) + 1) (hnum : num = (n : Int)) (hi : i + n ≤ S.lines.length) (hr : Rd w 1 a m (vstr ls)) (hmc : m ≤ c) (hcm : c ≤ 9223372036854775807)
    (hlim : S.lines.length - n + m ≤ 2000) (hlen : S.lines.length ≤ 2000) (hl : isLong ls = false) (hnz : ¬ (n = 0 ∧ m = 0)) (hall : ¬ (n = S.lines.length ∧ m = 0)) (hop : S.opens.length ≤ 3000000) :
    Calls Tryz.prog 110 #[.pointer (some ⟨bb, 0, none⟩), .int .i64 line, .int .i64 num, .slice a m c] w fun e w' => e = .returned (.int .u16 0) ∧ SplicePost w bb S F (S.lines.take i ++ ls ++ S.lines.drop (i + n)) w' := by
  obtain ⟨tb, kb, oa, on, oc, q1, c0, q4, q6, q7, qf, ⟨FT, hT, -, -⟩, -⟩ := h.cells
  have HT : Kp _ := ⟨hT⟩
  have HB : Kp _ := ⟨h⟩
  have HLT : Kp _ := ⟨h.lt⟩
  have HMK : Kp _ := ⟨hmk⟩
  have HI : Kp _ := ⟨hi⟩
  have HR : Kp _ := ⟨hr⟩
  have HMC : Kp _ := ⟨hmc⟩
  have HCM : Kp _ := ⟨hcm⟩
  have HLIM : Kp _ := ⟨hlim⟩
  have HLEN : Kp _ := ⟨hlen⟩
  have HL : Kp _ := ⟨hl⟩
  have HOP : Kp _ := ⟨hop⟩
  have HLINE : Kp _ := ⟨hline⟩
  have HNUM : Kp _ := ⟨hnum⟩
  have l1 : ¬ line < 1 := by omega
  have l2 : ¬ (S.lines.length : Int) + 1 < line := by omega
  have l3 : ¬ num < 0 := by omega
  have l4 : ¬ (S.lines.length : Int) - line + 1 < num := by omega
  have l5 : ¬ 2000 < (S.lines.length : Int) - num + (m : Int) := by omega
  have l6 : (S.lines.length : Int) ≤ 2000 := by omega
  have l7 : (m : Int) ≤ 4000 := by omega
  have l8 : 0 ≤ num := by omega
  have l9 : num ≤ 2000 := by omega
  have l10 : line ≤ 2001 := by omega
  clear q1 q4 q6 q7 qf hT h hmk hi hr hmc hcm hlim hlen hl hop hline hnum
  have hz1 : num = 0 → ¬ (m : Int) = 0 := fun e => by have := HNUM.out; omega
  have hz2 : num = (S.lines.length : Int) → ¬ (m : Int) = 0 := fun e => by have := HNUM.out; omega
  have HZ1 : Kp _ := ⟨hz1⟩
  have HZ2 : Kp _ := ⟨hz2⟩
  clear hz1 hz2 hnz hall
  go_enter Tryz.func110, Tryz.ntmps110
  go_wp2_with fail
  refine (len_text HT.out).mono ?_
  rintro e w' ⟨rfl, q, rfl⟩
  have K0 : Kp (Keep w NoB (w.drewN q)) := ⟨(Keep.refl w NoB).drewN q⟩
  generalize w.drewN q = w0 at *
  go_wp2_with fail
  refine (long_calls (HR.out.keep K0.out fun _ _ h => h) (by have := HLIM.out; omega)).mono ?_
  rintro e w' ⟨rfl, rfl⟩
  rw [HL.out]
  have hdec : (num = 0 ∧ ¬ (m : Int) = 0) ∨ ¬ num = 0 := by
    by_cases h : num = 0
    · exact .inl ⟨h, HZ1.out h⟩
    · exact .inr h
  rcases hdec with ⟨z1, z2⟩ | z1
  all_goals
    go_wp2_with fail
    refine (clone_str (HR.out.keep K0.out fun _ _ h => h) (by have := HLIM.out; omega)).mono ?_
    rintro e w1 ⟨a', c', b', rfl, s1, k1, f1⟩
    have S1 : Kp _ := ⟨s1⟩
    have K1 : Kp (Keep w NoB w1) := ⟨K0.out.trans k1 (Fresh.refl _ _)⟩
    have F1 : Kp (∀ g, b' = some g → w.heap.size ≤ g) := ⟨fun g hg => Nat.le_trans K0.out.size ((f1 g hg).resolve_left fun h => h)⟩
    have B1 : Kp (BMem w1 bb S F) := ⟨HB.out.keep (K0.out.trans k1 (Fresh.refl _ _)) fun _ _ h => h⟩
    clear s1 k1 f1
    have hdec2 : (num = (S.lines.length : Int) ∧ ¬ (m : Int) = 0) ∨ ¬ num = (S.lines.length : Int) := by
      by_cases h : num = (S.lines.length : Int)
      · exact .inl ⟨h, HZ2.out h⟩
      · exact .inr h
    rcases hdec2 with ⟨y1, y2⟩ | y1
    all_goals
      go_wp2_with fail
      refine (change_buf B1.out HLINE.out (n := n) (by have := HNUM.out; omega) HI.out (Rd.of_sl S1.out (vstr_one _)) S1.out.le S1.out.max ?_ (by have := HLIM.out; omega) HOP.out).mono ?_
      · intro ad ha hF
        rcases S1.out.at_ with ⟨_, h, _⟩ | ⟨g, cur, hg, h, _⟩
        · rw [ha] at h; cases h
        · rw [ha] at h; cases h
          have := F1.out _ hg
          have := HLT.out _ hF
          simp at this
          omega
      rintro e w2 ⟨rfl, F', pa, pc, pb, b2, k2, f2, -⟩
      have B2 : Kp _ := ⟨b2⟩
      have K2 : Kp (Keep w F w2) := ⟨(K1.out.mono fun _ h => h.elim).trans k2 (Fresh.refl _ _)⟩
      have F2 : Kp (Fresh w F F') := ⟨fun b hb => (f2 b hb).imp id fun h => Nat.le_trans K1.out.size h⟩
      obtain ⟨tb2, kb2, oa2, on2, oc2, -, -, c4, -, c7, -, -, FK2, hM, -⟩ := b2.cells
      have HM : Kp (KMem w2 kb2 noMarks FK2) := ⟨by have := hM; rw [show (BS.marks _) = S.marks from rfl, HMK.out] at this; exact this⟩
      clear b2 k2 f2 hM
      go_wp2_with fail
      refine (spliceM_none HM.out (by have := HLINE.out; omega) (by have := HLINE.out; omega) (by omega) (by omega) (by omega) (by omega)).mono ?_
      rintro e w3 ⟨rfl, k3⟩
      have B3 : Kp _ := ⟨B2.out.keep k3 fun _ _ h => h⟩
      have c7' := k3.cell c7 fun h => h
      have K3 : Kp (Keep w F w3) := ⟨K2.out.trans (k3.mono (G := F) fun _ h => h.elim) (Fresh.refl _ _)⟩
      clear k3 c7 c4
      go_wp2_with fail
      refine (put_buf B3.out S.at_).mono ?_
      rintro e w4 ⟨rfl, b4, k4⟩
      have B4 : Kp _ := ⟨b4⟩
      have K4 : Kp (Keep w F w4) := ⟨K3.out.trans k4 F2.out⟩
      clear b4 k4
      go_wp2_with fail
      go_ret
      exact ⟨rfl, _, ⟨F', B4.out, K4.out, F2.out⟩, rfl, rfl, rfl, by simp, rfl, rfl, rfl, rfl⟩

end Go.Proofs

/- The walk of buf.Splice at lines that are too long. -/
namespace Go.Proofs
open Go.RowKit Go.Em

set_option maxRecDepth 100000 in
set_option maxHeartbeats 2000000 in
theorem splice_long {w : World} {bb : Nat} {S : BS} {F : Blocks} (h : BMem w bb S F) {i n m c : Nat} {a : Option Addr} {ls : List ByteArray} {line num : Int} (hline : line = (i : Int) + 1) (hnum : num = (n : Int)) (hi : i + n ≤ S.lines.length) (hr : Rd w 1 a m (vstr ls)) (hmc : m ≤ c) (hcm : c ≤ 9223372036854775807)
    (hlim : S.lines.length - n + m ≤ 2000) (hlen : S.lines.length ≤ 2000) (hl : isLong ls = true) :
    Calls Tryz.prog 110 #[.pointer (some ⟨bb, 0, none⟩), .int .i64 line, .int .i64 num, .slice a m c] w fun e w' => e = .returned (.int .u16 90) ∧ Keep w NoB w' := by
  obtain ⟨tb, kb, oa, on, oc, q1, c0, q4, q6, q7, qf, ⟨FT, hT, -, -⟩, -⟩ := h.cells
  have HT : Kp _ := ⟨hT⟩
  have HB : Kp _ := ⟨h⟩
  have HLT : Kp _ := ⟨h.lt⟩
  have HI : Kp _ := ⟨hi⟩
  have HR : Kp _ := ⟨hr⟩
  have HMC : Kp _ := ⟨hmc⟩
  have HCM : Kp _ := ⟨hcm⟩
  have HLIM : Kp _ := ⟨hlim⟩
  have HLEN : Kp _ := ⟨hlen⟩
  have HL : Kp _ := ⟨hl⟩
  have HLINE : Kp _ := ⟨hline⟩
  have HNUM : Kp _ := ⟨hnum⟩
  have l1 : ¬ line < 1 := by omega
  have l2 : ¬ (S.lines.length : Int) + 1 < line := by omega
  have l3 : ¬ num < 0 := by omega
  have l4 : ¬ (S.lines.length : Int) - line + 1 < num := by omega
  have l5 : ¬ 2000 < (S.lines.length : Int) - num + (m : Int) := by omega
  have l6 : (S.lines.length : Int) ≤ 2000 := by omega
  have l7 : (m : Int) ≤ 4000 := by omega
  have l8 : 0 ≤ num := by omega
  have l9 : num ≤ 2000 := by omega
  have l10 : line ≤ 2001 := by omega
  clear q1 q4 q6 q7 qf hT h hi hr hmc hcm hlim hlen hl hline hnum
  go_enter Tryz.func110, Tryz.ntmps110
  go_wp2_with fail
  refine (len_text HT.out).mono ?_
  rintro e w' ⟨rfl, q, rfl⟩
  have K0 : Kp (Keep w NoB (w.drewN q)) := ⟨(Keep.refl w NoB).drewN q⟩
  generalize w.drewN q = w0 at *
  go_wp2_with fail
  refine (long_calls (HR.out.keep K0.out fun _ _ h => h) (by have := HLIM.out; omega)).mono ?_
  rintro e w' ⟨rfl, rfl⟩
  rw [HL.out]
  go_wp2_with fail
  go_ret
  exact ⟨rfl, K0.out⟩

end Go.Proofs

/- The walk of work.put. -/
namespace Go.Proofs
open Go.RowKit Go.Em

/-- What stands behind a command that changes a text. -/
def TextPost (w : World) (bb : Nat) (S : BS) (F : Blocks) (l : List ByteArray) (at_ : Int) (w' : World) : Prop :=
  ∃ S' : BS, BPost w F w' bb S' ∧ S'.lines = l ∧ S'.at_ = at_ ∧ S'.marks = S.marks ∧ S'.opens.length = S.opens.length + 3

theorem TextPost.pre {w W w' : World} {bb : Nat} {S : BS} {F : Blocks} {l : List ByteArray} {at_ : Int} (hK : Keep w NoB W) (h : TextPost W bb S F l at_ w') : TextPost w bb S F l at_ w' := by
  obtain ⟨S2, ⟨F2, b2, k2, f2⟩, q⟩ := h
  exact ⟨S2, ⟨F2, b2, (hK.mono fun _ h => h.elim).trans k2 (Fresh.refl _ _), fun b hb => (f2 b hb).imp id fun h => Nat.le_trans hK.size h⟩, q⟩

set_option maxRecDepth 100000 in
set_option maxHeartbeats 2000000 in
theorem put_work {w : World} {wb : Nat} {cv : CV} {bb rb : Nat} {fr tt d : Int} (hW : WMem w wb cv bb rb fr tt d) {S : BS} {F : Blocks} (h : BMem w bb S F) (hwF : ¬ F wb) (hmk : S.marks = noMarks) {i n m c : Nat} {a : Option Addr} {ls : List ByteArray} {line num cur : Int} (hline : line = (i : Int) + 1) (hnum : num = (n : Int))
    (hi : i + n ≤ S.lines.length) (hr : Rd w 1 a m (vstr ls)) (hmc : m ≤ c) (hcm : c ≤ 9223372036854775807)
    (hlim : S.lines.length - n + m ≤ 2000) (hlen : S.lines.length ≤ 2000) (hl : isLong ls = false) (hnz : ¬ (n = 0 ∧ m = 0)) (hall : ¬ (n = S.lines.length ∧ m = 0)) (hop : S.opens.length ≤ 3000000) :
    Calls Tryz.prog 82 #[.pointer (some ⟨wb, 0, none⟩), .int .i64 line, .int .i64 num, .slice a m c, .int .i64 cur] w fun e w' => e = .returned (.int .u16 0) ∧
      TextPost w bb S F (S.lines.take i ++ ls ++ S.lines.drop (i + n)) (min (max cur 1) ((S.lines.take i ++ ls ++ S.lines.drop (i + n)).length : Int)) w' := by
  have c10 : w.cell? ⟨wb, 10, none⟩ = some (.pointer (some ⟨bb, 0, none⟩)) := by rw [cell_blk hW]; rfl
  have HC10 : Kp _ := ⟨c10⟩
  have HWF : Kp _ := ⟨hwF⟩
  have HCALL : Kp _ := ⟨splice_buf h hmk hline hnum hi hr hmc hcm hlim hlen hl hnz hall hop⟩
  clear h hmk hline hnum hi hr hmc hcm hlim hlen hl hnz hall hop hW hwF
  go_enter Tryz.func82, Tryz.ntmps82
  go_wp2_with fail
  refine HCALL.out.mono ?_
  rintro e w1 ⟨rfl, S', ⟨F', b1, k1, f1⟩, h1, h2, h3, h4, -, -, -, -⟩
  have d10 := k1.cell HC10.out HWF.out
  have HB1 : Kp _ := ⟨b1⟩
  have HK1 : Kp _ := ⟨k1⟩
  have HF1 : Kp _ := ⟨f1⟩
  have H1 : Kp _ := ⟨h1⟩
  have H3 : Kp _ := ⟨h3⟩
  have H4 : Kp _ := ⟨h4⟩
  clear b1 k1 f1 h1 h2 h3 h4 HCALL c10
  go_wp2_with fail
  refine (put_buf HB1.out cur).mono ?_
  rintro e w2 ⟨rfl, b2, k2⟩
  have B2 : Kp _ := ⟨b2⟩
  have K2 : Kp (Keep w F w2) := ⟨HK1.out.trans k2 HF1.out⟩
  clear b2 k2
  go_wp2_with fail
  go_ret
  exact ⟨rfl, _, ⟨F', B2.out, K2.out, HF1.out⟩, H1.out, by rw [H1.out], H3.out, H4.out⟩

set_option maxRecDepth 100000 in
set_option maxHeartbeats 2000000 in
theorem put_long {w : World} {wb : Nat} {cv : CV} {bb rb : Nat} {fr tt d : Int} (hW : WMem w wb cv bb rb fr tt d) {S : BS} {F : Blocks} (h : BMem w bb S F) {i n m c : Nat} {a : Option Addr} {ls : List ByteArray} {line num cur : Int} (hline : line = (i : Int) + 1) (hnum : num = (n : Int))
    (hi : i + n ≤ S.lines.length) (hr : Rd w 1 a m (vstr ls)) (hmc : m ≤ c) (hcm : c ≤ 9223372036854775807)
    (hlim : S.lines.length - n + m ≤ 2000) (hlen : S.lines.length ≤ 2000) (hl : isLong ls = true) :
    Calls Tryz.prog 82 #[.pointer (some ⟨wb, 0, none⟩), .int .i64 line, .int .i64 num, .slice a m c, .int .i64 cur] w fun e w' => e = .returned (.int .u16 90) ∧ Keep w NoB w' := by
  have c10 : w.cell? ⟨wb, 10, none⟩ = some (.pointer (some ⟨bb, 0, none⟩)) := by rw [cell_blk hW]; rfl
  have HC10 : Kp _ := ⟨c10⟩
  have HCALL : Kp _ := ⟨splice_long h hline hnum hi hr hmc hcm hlim hlen hl⟩
  clear h hline hnum hi hr hmc hcm hlim hlen hl hW
  go_enter Tryz.func82, Tryz.ntmps82
  go_wp2_with fail
  refine HCALL.out.mono ?_
  rintro e w1 ⟨rfl, k1⟩
  have HK1 : Kp _ := ⟨k1⟩
  clear k1 HCALL c10
  go_wp2_with fail
  go_ret
  exact ⟨rfl, HK1.out⟩

end Go.Proofs

/- The walks of way and of Do at the commands on lines, up to what each does. Written by mkdo.py. -/
namespace Go.Proofs
open Go.RowKit Go.Em

/-- What a command does, in whatever block it lies. -/
def Does (w : World) (f : Nat) (cv : CV) (bb rb : Nat) (fr tt d : Int) (R : Ending → World → Prop) : Prop :=
  ∀ (W : World) (wb : Nat), Keep w NoB W → w.heap.size ≤ wb → WMem W wb cv bb rb fr tt d → Calls Tryz.prog f #[.pointer (some ⟨wb, 0, none⟩)] W R
def Told (R : Ending → World → Prop) (e : Ending) (w' : World) : Prop := ∃ v, R (.returned v) w' ∧ e = .returned (.tuple #[.slice none 0 0, v])
/-- It returns a number. -/
def Gives (R : Ending → World → Prop) : Prop := ∀ e w', R e w' → ∃ n : Int, e = .returned (.int .u16 n)

set_option maxRecDepth 100000 in
theorem way_of_d {w : World} {wb : Nat} {c : CV} {bb rb : Nat} {f t d : Int} (h : WMem w wb c bb rb f t d) (hn : c.name = ⟨#[100]⟩) :
    Calls Tryz.prog 30 #[.pointer (some ⟨wb, 0, none⟩)] w fun e w' => e = .returned (.func (.func 46) #[.pointer (some ⟨wb, 0, none⟩)] #[]) ∧ w = w' := by
  have c1 : w.cell? ⟨wb, 1, none⟩ = some (.string ⟨#[100]⟩) := by rw [cell_blk h]; show some (Value.string c.name) = _; rw [hn]
  clear h hn
  go_enter Tryz.func30, Tryz.ntmps30
  go_wp2_with fail
  go_ret
  exact ⟨rfl, rfl⟩

set_option maxRecDepth 100000 in
set_option maxHeartbeats 2000000 in
theorem do_of_d {w : World} {bb rb : Nat} {S : BS} {F : Blocks} {fr tt d : Int} {reg : Int} {range dest : Value} {arg : ByteArray} {pat rep flags : ByteArray} {bang : Bool} (hB : BMem w bb S F) (hi1 : 1 ≤ fr) (hi2 : fr ≤ tt) (hi3 : tt ≤ (S.lines.length : Int)) (_hmost : S.lines.length ≤ 100000)
    {R : Ending → World → Prop} (hR : Gives R) (hm : Does w 46 ⟨range, ⟨#[100]⟩, bang, reg, -1, dest, .string pat, .string rep, .string flags, arg⟩ bb rb fr tt d R) :
    Calls Tryz.prog 10 #[.pointer (some ⟨bb, 0, none⟩), .pointer (some ⟨rb, 0, none⟩), .agg #[range, .string ⟨#[100]⟩, .bool bang, .int .u8 reg, .int .i64 (-1), dest, .string pat, .string rep, .string flags, .string arg], .int .i64 fr, .int .i64 tt, .int .i64 d] w (Told R) := by
  obtain ⟨tb, kb, oa, on, oc, q1, c0, q4, q6, q7, qf, ⟨FT, hT, hTd, -⟩, -⟩ := hB.cells
  have hbb : bb < w.heap.size := hB.lt _ hB.has
  have HT : Kp _ := ⟨hT⟩
  have HR : Kp _ := ⟨hR⟩
  have HM : Kp _ := ⟨hm⟩
  have hi5 : ¬ (S.lines.length : Int) < tt := by omega
  have hi6 : 0 ≤ fr := by omega
  clear q1 q4 q6 q7 qf hT hTd hB hR hm
  go_enter Tryz.func10, Tryz.ntmps10
  go_wp2_with fail
  refine (len_text (HT.out.keep ((Keep.refl w NoB).alloc _) fun _ _ h => h)).mono ?_
  rintro e w' ⟨rfl, q, rfl⟩
  go_wp2_with fail
  have hsz : ((w.alloc (.cells #[range, .string ⟨#[100]⟩, .bool bang, .int .u8 reg, .int .i64 (-1), dest, .string pat, .string rep, .string flags, .string arg] 36)).drewN q).heap.size = w.heap.size + 1 := by simp
  have hK0 : Keep w NoB ((w.alloc (.cells #[range, .string ⟨#[100]⟩, .bool bang, .int .u8 reg, .int .i64 (-1), dest, .string pat, .string rep, .string flags, .string arg] 36)).drewN q) := ((Keep.refl w NoB).alloc _).drewN q
  generalize (w.alloc (.cells #[range, .string ⟨#[100]⟩, .bool bang, .int .u8 reg, .int .i64 (-1), dest, .string pat, .string rep, .string flags, .string arg] 36)).drewN q = W0 at *
  have hK1 := hK0.alloc (.cells (WCells ⟨range, ⟨#[100]⟩, bang, reg, -1, dest, .string pat, .string rep, .string flags, arg⟩ bb rb fr tt d) 72)
  have hW : WMem (W0.alloc (.cells (WCells ⟨range, ⟨#[100]⟩, bang, reg, -1, dest, .string pat, .string rep, .string flags, arg⟩ bb rb fr tt d) 72)) (w.heap.size + 1) ⟨range, ⟨#[100]⟩, bang, reg, -1, dest, .string pat, .string rep, .string flags, arg⟩ bb rb fr tt d := by
    have := heap_alloc_new W0 (.cells (WCells ⟨range, ⟨#[100]⟩, bang, reg, -1, dest, .string pat, .string rep, .string flags, arg⟩ bb rb fr tt d) 72)
    rw [hsz] at this
    exact this
  unfold WCells at hK1 hW
  generalize (W0.alloc _) = V at *
  have HW : Kp _ := ⟨hW⟩
  have HK1 : Kp _ := ⟨hK1⟩
  clear hW hK1 hK0 hsz
  refine (way_of_d HW.out rfl).mono ?_
  rintro e w' ⟨rfl, rfl⟩
  go_wp2_with fail
  refine (HM.out V (w.heap.size + 1) HK1.out (by omega) HW.out).mono ?_
  intro e w2 hr
  obtain ⟨v, he⟩ := HR.out e w2 hr
  subst he
  have HRR : Kp _ := ⟨hr⟩
  clear hr
  go_wp2_with fail
  go_ret2
  exact ⟨_, HRR.out, rfl⟩

set_option maxRecDepth 100000 in
theorem way_of_y {w : World} {wb : Nat} {c : CV} {bb rb : Nat} {f t d : Int} (h : WMem w wb c bb rb f t d) (hn : c.name = ⟨#[121]⟩) :
    Calls Tryz.prog 30 #[.pointer (some ⟨wb, 0, none⟩)] w fun e w' => e = .returned (.func (.func 47) #[.pointer (some ⟨wb, 0, none⟩)] #[]) ∧ w = w' := by
  have c1 : w.cell? ⟨wb, 1, none⟩ = some (.string ⟨#[121]⟩) := by rw [cell_blk h]; show some (Value.string c.name) = _; rw [hn]
  clear h hn
  go_enter Tryz.func30, Tryz.ntmps30
  go_wp2_with fail
  go_ret
  exact ⟨rfl, rfl⟩

set_option maxRecDepth 100000 in
set_option maxHeartbeats 2000000 in
theorem do_of_y {w : World} {bb rb : Nat} {S : BS} {F : Blocks} {fr tt d : Int} {reg : Int} {range dest : Value} {arg : ByteArray} {pat rep flags : ByteArray} {bang : Bool} (hB : BMem w bb S F) (hi1 : 1 ≤ fr) (hi2 : fr ≤ tt) (hi3 : tt ≤ (S.lines.length : Int)) (_hmost : S.lines.length ≤ 100000)
    {R : Ending → World → Prop} (hR : Gives R) (hm : Does w 47 ⟨range, ⟨#[121]⟩, bang, reg, -1, dest, .string pat, .string rep, .string flags, arg⟩ bb rb fr tt d R) :
    Calls Tryz.prog 10 #[.pointer (some ⟨bb, 0, none⟩), .pointer (some ⟨rb, 0, none⟩), .agg #[range, .string ⟨#[121]⟩, .bool bang, .int .u8 reg, .int .i64 (-1), dest, .string pat, .string rep, .string flags, .string arg], .int .i64 fr, .int .i64 tt, .int .i64 d] w (Told R) := by
  obtain ⟨tb, kb, oa, on, oc, q1, c0, q4, q6, q7, qf, ⟨FT, hT, hTd, -⟩, -⟩ := hB.cells
  have hbb : bb < w.heap.size := hB.lt _ hB.has
  have HT : Kp _ := ⟨hT⟩
  have HR : Kp _ := ⟨hR⟩
  have HM : Kp _ := ⟨hm⟩
  have hi5 : ¬ (S.lines.length : Int) < tt := by omega
  have hi6 : 0 ≤ fr := by omega
  clear q1 q4 q6 q7 qf hT hTd hB hR hm
  go_enter Tryz.func10, Tryz.ntmps10
  go_wp2_with fail
  refine (len_text (HT.out.keep ((Keep.refl w NoB).alloc _) fun _ _ h => h)).mono ?_
  rintro e w' ⟨rfl, q, rfl⟩
  go_wp2_with fail
  have hsz : ((w.alloc (.cells #[range, .string ⟨#[121]⟩, .bool bang, .int .u8 reg, .int .i64 (-1), dest, .string pat, .string rep, .string flags, .string arg] 36)).drewN q).heap.size = w.heap.size + 1 := by simp
  have hK0 : Keep w NoB ((w.alloc (.cells #[range, .string ⟨#[121]⟩, .bool bang, .int .u8 reg, .int .i64 (-1), dest, .string pat, .string rep, .string flags, .string arg] 36)).drewN q) := ((Keep.refl w NoB).alloc _).drewN q
  generalize (w.alloc (.cells #[range, .string ⟨#[121]⟩, .bool bang, .int .u8 reg, .int .i64 (-1), dest, .string pat, .string rep, .string flags, .string arg] 36)).drewN q = W0 at *
  have hK1 := hK0.alloc (.cells (WCells ⟨range, ⟨#[121]⟩, bang, reg, -1, dest, .string pat, .string rep, .string flags, arg⟩ bb rb fr tt d) 72)
  have hW : WMem (W0.alloc (.cells (WCells ⟨range, ⟨#[121]⟩, bang, reg, -1, dest, .string pat, .string rep, .string flags, arg⟩ bb rb fr tt d) 72)) (w.heap.size + 1) ⟨range, ⟨#[121]⟩, bang, reg, -1, dest, .string pat, .string rep, .string flags, arg⟩ bb rb fr tt d := by
    have := heap_alloc_new W0 (.cells (WCells ⟨range, ⟨#[121]⟩, bang, reg, -1, dest, .string pat, .string rep, .string flags, arg⟩ bb rb fr tt d) 72)
    rw [hsz] at this
    exact this
  unfold WCells at hK1 hW
  generalize (W0.alloc _) = V at *
  have HW : Kp _ := ⟨hW⟩
  have HK1 : Kp _ := ⟨hK1⟩
  clear hW hK1 hK0 hsz
  refine (way_of_y HW.out rfl).mono ?_
  rintro e w' ⟨rfl, rfl⟩
  go_wp2_with fail
  refine (HM.out V (w.heap.size + 1) HK1.out (by omega) HW.out).mono ?_
  intro e w2 hr
  obtain ⟨v, he⟩ := HR.out e w2 hr
  subst he
  have HRR : Kp _ := ⟨hr⟩
  clear hr
  go_wp2_with fail
  go_ret2
  exact ⟨_, HRR.out, rfl⟩

set_option maxRecDepth 100000 in
theorem way_of_m {w : World} {wb : Nat} {c : CV} {bb rb : Nat} {f t d : Int} (h : WMem w wb c bb rb f t d) (hn : c.name = ⟨#[109]⟩) :
    Calls Tryz.prog 30 #[.pointer (some ⟨wb, 0, none⟩)] w fun e w' => e = .returned (.func (.func 48) #[.pointer (some ⟨wb, 0, none⟩)] #[]) ∧ w = w' := by
  have c1 : w.cell? ⟨wb, 1, none⟩ = some (.string ⟨#[109]⟩) := by rw [cell_blk h]; show some (Value.string c.name) = _; rw [hn]
  clear h hn
  go_enter Tryz.func30, Tryz.ntmps30
  go_wp2_with fail
  go_ret
  exact ⟨rfl, rfl⟩

set_option maxRecDepth 100000 in
set_option maxHeartbeats 2000000 in
theorem do_of_m {w : World} {bb rb : Nat} {S : BS} {F : Blocks} {fr tt d : Int} {reg : Int} {range dest : Value} {arg : ByteArray} {pat rep flags : ByteArray} {bang : Bool} (hB : BMem w bb S F) (hi1 : 1 ≤ fr) (hi2 : fr ≤ tt) (hi3 : tt ≤ (S.lines.length : Int)) (_hmost : S.lines.length ≤ 100000)
    {R : Ending → World → Prop} (hR : Gives R) (hm : Does w 48 ⟨range, ⟨#[109]⟩, bang, reg, -1, dest, .string pat, .string rep, .string flags, arg⟩ bb rb fr tt d R) :
    Calls Tryz.prog 10 #[.pointer (some ⟨bb, 0, none⟩), .pointer (some ⟨rb, 0, none⟩), .agg #[range, .string ⟨#[109]⟩, .bool bang, .int .u8 reg, .int .i64 (-1), dest, .string pat, .string rep, .string flags, .string arg], .int .i64 fr, .int .i64 tt, .int .i64 d] w (Told R) := by
  obtain ⟨tb, kb, oa, on, oc, q1, c0, q4, q6, q7, qf, ⟨FT, hT, hTd, -⟩, -⟩ := hB.cells
  have hbb : bb < w.heap.size := hB.lt _ hB.has
  have HT : Kp _ := ⟨hT⟩
  have HR : Kp _ := ⟨hR⟩
  have HM : Kp _ := ⟨hm⟩
  have hi5 : ¬ (S.lines.length : Int) < tt := by omega
  have hi6 : 0 ≤ fr := by omega
  clear q1 q4 q6 q7 qf hT hTd hB hR hm
  go_enter Tryz.func10, Tryz.ntmps10
  go_wp2_with fail
  refine (len_text (HT.out.keep ((Keep.refl w NoB).alloc _) fun _ _ h => h)).mono ?_
  rintro e w' ⟨rfl, q, rfl⟩
  go_wp2_with fail
  have hsz : ((w.alloc (.cells #[range, .string ⟨#[109]⟩, .bool bang, .int .u8 reg, .int .i64 (-1), dest, .string pat, .string rep, .string flags, .string arg] 36)).drewN q).heap.size = w.heap.size + 1 := by simp
  have hK0 : Keep w NoB ((w.alloc (.cells #[range, .string ⟨#[109]⟩, .bool bang, .int .u8 reg, .int .i64 (-1), dest, .string pat, .string rep, .string flags, .string arg] 36)).drewN q) := ((Keep.refl w NoB).alloc _).drewN q
  generalize (w.alloc (.cells #[range, .string ⟨#[109]⟩, .bool bang, .int .u8 reg, .int .i64 (-1), dest, .string pat, .string rep, .string flags, .string arg] 36)).drewN q = W0 at *
  have hK1 := hK0.alloc (.cells (WCells ⟨range, ⟨#[109]⟩, bang, reg, -1, dest, .string pat, .string rep, .string flags, arg⟩ bb rb fr tt d) 72)
  have hW : WMem (W0.alloc (.cells (WCells ⟨range, ⟨#[109]⟩, bang, reg, -1, dest, .string pat, .string rep, .string flags, arg⟩ bb rb fr tt d) 72)) (w.heap.size + 1) ⟨range, ⟨#[109]⟩, bang, reg, -1, dest, .string pat, .string rep, .string flags, arg⟩ bb rb fr tt d := by
    have := heap_alloc_new W0 (.cells (WCells ⟨range, ⟨#[109]⟩, bang, reg, -1, dest, .string pat, .string rep, .string flags, arg⟩ bb rb fr tt d) 72)
    rw [hsz] at this
    exact this
  unfold WCells at hK1 hW
  generalize (W0.alloc _) = V at *
  have HW : Kp _ := ⟨hW⟩
  have HK1 : Kp _ := ⟨hK1⟩
  clear hW hK1 hK0 hsz
  refine (way_of_m HW.out rfl).mono ?_
  rintro e w' ⟨rfl, rfl⟩
  go_wp2_with fail
  refine (HM.out V (w.heap.size + 1) HK1.out (by omega) HW.out).mono ?_
  intro e w2 hr
  obtain ⟨v, he⟩ := HR.out e w2 hr
  subst he
  have HRR : Kp _ := ⟨hr⟩
  clear hr
  go_wp2_with fail
  go_ret2
  exact ⟨_, HRR.out, rfl⟩

set_option maxRecDepth 100000 in
theorem way_of_t {w : World} {wb : Nat} {c : CV} {bb rb : Nat} {f t d : Int} (h : WMem w wb c bb rb f t d) (hn : c.name = ⟨#[116]⟩) :
    Calls Tryz.prog 30 #[.pointer (some ⟨wb, 0, none⟩)] w fun e w' => e = .returned (.func (.func 49) #[.pointer (some ⟨wb, 0, none⟩)] #[]) ∧ w = w' := by
  have c1 : w.cell? ⟨wb, 1, none⟩ = some (.string ⟨#[116]⟩) := by rw [cell_blk h]; show some (Value.string c.name) = _; rw [hn]
  clear h hn
  go_enter Tryz.func30, Tryz.ntmps30
  go_wp2_with fail
  go_ret
  exact ⟨rfl, rfl⟩

set_option maxRecDepth 100000 in
set_option maxHeartbeats 2000000 in
theorem do_of_t {w : World} {bb rb : Nat} {S : BS} {F : Blocks} {fr tt d : Int} {reg : Int} {range dest : Value} {arg : ByteArray} {pat rep flags : ByteArray} {bang : Bool} (hB : BMem w bb S F) (hi1 : 1 ≤ fr) (hi2 : fr ≤ tt) (hi3 : tt ≤ (S.lines.length : Int)) (_hmost : S.lines.length ≤ 100000)
    {R : Ending → World → Prop} (hR : Gives R) (hm : Does w 49 ⟨range, ⟨#[116]⟩, bang, reg, -1, dest, .string pat, .string rep, .string flags, arg⟩ bb rb fr tt d R) :
    Calls Tryz.prog 10 #[.pointer (some ⟨bb, 0, none⟩), .pointer (some ⟨rb, 0, none⟩), .agg #[range, .string ⟨#[116]⟩, .bool bang, .int .u8 reg, .int .i64 (-1), dest, .string pat, .string rep, .string flags, .string arg], .int .i64 fr, .int .i64 tt, .int .i64 d] w (Told R) := by
  obtain ⟨tb, kb, oa, on, oc, q1, c0, q4, q6, q7, qf, ⟨FT, hT, hTd, -⟩, -⟩ := hB.cells
  have hbb : bb < w.heap.size := hB.lt _ hB.has
  have HT : Kp _ := ⟨hT⟩
  have HR : Kp _ := ⟨hR⟩
  have HM : Kp _ := ⟨hm⟩
  have hi5 : ¬ (S.lines.length : Int) < tt := by omega
  have hi6 : 0 ≤ fr := by omega
  clear q1 q4 q6 q7 qf hT hTd hB hR hm
  go_enter Tryz.func10, Tryz.ntmps10
  go_wp2_with fail
  refine (len_text (HT.out.keep ((Keep.refl w NoB).alloc _) fun _ _ h => h)).mono ?_
  rintro e w' ⟨rfl, q, rfl⟩
  go_wp2_with fail
  have hsz : ((w.alloc (.cells #[range, .string ⟨#[116]⟩, .bool bang, .int .u8 reg, .int .i64 (-1), dest, .string pat, .string rep, .string flags, .string arg] 36)).drewN q).heap.size = w.heap.size + 1 := by simp
  have hK0 : Keep w NoB ((w.alloc (.cells #[range, .string ⟨#[116]⟩, .bool bang, .int .u8 reg, .int .i64 (-1), dest, .string pat, .string rep, .string flags, .string arg] 36)).drewN q) := ((Keep.refl w NoB).alloc _).drewN q
  generalize (w.alloc (.cells #[range, .string ⟨#[116]⟩, .bool bang, .int .u8 reg, .int .i64 (-1), dest, .string pat, .string rep, .string flags, .string arg] 36)).drewN q = W0 at *
  have hK1 := hK0.alloc (.cells (WCells ⟨range, ⟨#[116]⟩, bang, reg, -1, dest, .string pat, .string rep, .string flags, arg⟩ bb rb fr tt d) 72)
  have hW : WMem (W0.alloc (.cells (WCells ⟨range, ⟨#[116]⟩, bang, reg, -1, dest, .string pat, .string rep, .string flags, arg⟩ bb rb fr tt d) 72)) (w.heap.size + 1) ⟨range, ⟨#[116]⟩, bang, reg, -1, dest, .string pat, .string rep, .string flags, arg⟩ bb rb fr tt d := by
    have := heap_alloc_new W0 (.cells (WCells ⟨range, ⟨#[116]⟩, bang, reg, -1, dest, .string pat, .string rep, .string flags, arg⟩ bb rb fr tt d) 72)
    rw [hsz] at this
    exact this
  unfold WCells at hK1 hW
  generalize (W0.alloc _) = V at *
  have HW : Kp _ := ⟨hW⟩
  have HK1 : Kp _ := ⟨hK1⟩
  clear hW hK1 hK0 hsz
  refine (way_of_t HW.out rfl).mono ?_
  rintro e w' ⟨rfl, rfl⟩
  go_wp2_with fail
  refine (HM.out V (w.heap.size + 1) HK1.out (by omega) HW.out).mono ?_
  intro e w2 hr
  obtain ⟨v, he⟩ := HR.out e w2 hr
  subst he
  have HRR : Kp _ := ⟨hr⟩
  clear hr
  go_wp2_with fail
  go_ret2
  exact ⟨_, HRR.out, rfl⟩

set_option maxRecDepth 100000 in
theorem way_of_j {w : World} {wb : Nat} {c : CV} {bb rb : Nat} {f t d : Int} (h : WMem w wb c bb rb f t d) (hn : c.name = ⟨#[106]⟩) :
    Calls Tryz.prog 30 #[.pointer (some ⟨wb, 0, none⟩)] w fun e w' => e = .returned (.func (.func 50) #[.pointer (some ⟨wb, 0, none⟩)] #[]) ∧ w = w' := by
  have c1 : w.cell? ⟨wb, 1, none⟩ = some (.string ⟨#[106]⟩) := by rw [cell_blk h]; show some (Value.string c.name) = _; rw [hn]
  clear h hn
  go_enter Tryz.func30, Tryz.ntmps30
  go_wp2_with fail
  go_ret
  exact ⟨rfl, rfl⟩

set_option maxRecDepth 100000 in
set_option maxHeartbeats 2000000 in
theorem do_of_j {w : World} {bb rb : Nat} {S : BS} {F : Blocks} {fr tt d : Int} {reg : Int} {range dest : Value} {arg : ByteArray} {pat rep flags : ByteArray} {bang : Bool} (hB : BMem w bb S F) (hi1 : 1 ≤ fr) (hi2 : fr ≤ tt) (hi3 : tt ≤ (S.lines.length : Int)) (_hmost : S.lines.length ≤ 100000)
    {R : Ending → World → Prop} (hR : Gives R) (hm : Does w 50 ⟨range, ⟨#[106]⟩, bang, reg, -1, dest, .string pat, .string rep, .string flags, arg⟩ bb rb fr tt d R) :
    Calls Tryz.prog 10 #[.pointer (some ⟨bb, 0, none⟩), .pointer (some ⟨rb, 0, none⟩), .agg #[range, .string ⟨#[106]⟩, .bool bang, .int .u8 reg, .int .i64 (-1), dest, .string pat, .string rep, .string flags, .string arg], .int .i64 fr, .int .i64 tt, .int .i64 d] w (Told R) := by
  obtain ⟨tb, kb, oa, on, oc, q1, c0, q4, q6, q7, qf, ⟨FT, hT, hTd, -⟩, -⟩ := hB.cells
  have hbb : bb < w.heap.size := hB.lt _ hB.has
  have HT : Kp _ := ⟨hT⟩
  have HR : Kp _ := ⟨hR⟩
  have HM : Kp _ := ⟨hm⟩
  have hi5 : ¬ (S.lines.length : Int) < tt := by omega
  have hi6 : 0 ≤ fr := by omega
  clear q1 q4 q6 q7 qf hT hTd hB hR hm
  go_enter Tryz.func10, Tryz.ntmps10
  go_wp2_with fail
  refine (len_text (HT.out.keep ((Keep.refl w NoB).alloc _) fun _ _ h => h)).mono ?_
  rintro e w' ⟨rfl, q, rfl⟩
  go_wp2_with fail
  have hsz : ((w.alloc (.cells #[range, .string ⟨#[106]⟩, .bool bang, .int .u8 reg, .int .i64 (-1), dest, .string pat, .string rep, .string flags, .string arg] 36)).drewN q).heap.size = w.heap.size + 1 := by simp
  have hK0 : Keep w NoB ((w.alloc (.cells #[range, .string ⟨#[106]⟩, .bool bang, .int .u8 reg, .int .i64 (-1), dest, .string pat, .string rep, .string flags, .string arg] 36)).drewN q) := ((Keep.refl w NoB).alloc _).drewN q
  generalize (w.alloc (.cells #[range, .string ⟨#[106]⟩, .bool bang, .int .u8 reg, .int .i64 (-1), dest, .string pat, .string rep, .string flags, .string arg] 36)).drewN q = W0 at *
  have hK1 := hK0.alloc (.cells (WCells ⟨range, ⟨#[106]⟩, bang, reg, -1, dest, .string pat, .string rep, .string flags, arg⟩ bb rb fr tt d) 72)
  have hW : WMem (W0.alloc (.cells (WCells ⟨range, ⟨#[106]⟩, bang, reg, -1, dest, .string pat, .string rep, .string flags, arg⟩ bb rb fr tt d) 72)) (w.heap.size + 1) ⟨range, ⟨#[106]⟩, bang, reg, -1, dest, .string pat, .string rep, .string flags, arg⟩ bb rb fr tt d := by
    have := heap_alloc_new W0 (.cells (WCells ⟨range, ⟨#[106]⟩, bang, reg, -1, dest, .string pat, .string rep, .string flags, arg⟩ bb rb fr tt d) 72)
    rw [hsz] at this
    exact this
  unfold WCells at hK1 hW
  generalize (W0.alloc _) = V at *
  have HW : Kp _ := ⟨hW⟩
  have HK1 : Kp _ := ⟨hK1⟩
  clear hW hK1 hK0 hsz
  refine (way_of_j HW.out rfl).mono ?_
  rintro e w' ⟨rfl, rfl⟩
  go_wp2_with fail
  refine (HM.out V (w.heap.size + 1) HK1.out (by omega) HW.out).mono ?_
  intro e w2 hr
  obtain ⟨v, he⟩ := HR.out e w2 hr
  subst he
  have HRR : Kp _ := ⟨hr⟩
  clear hr
  go_wp2_with fail
  go_ret2
  exact ⟨_, HRR.out, rfl⟩

set_option maxRecDepth 100000 in
theorem way_of_pu {w : World} {wb : Nat} {c : CV} {bb rb : Nat} {f t d : Int} (h : WMem w wb c bb rb f t d) (hn : c.name = ⟨#[112, 117]⟩) :
    Calls Tryz.prog 30 #[.pointer (some ⟨wb, 0, none⟩)] w fun e w' => e = .returned (.func (.func 51) #[.pointer (some ⟨wb, 0, none⟩)] #[]) ∧ w = w' := by
  have c1 : w.cell? ⟨wb, 1, none⟩ = some (.string ⟨#[112, 117]⟩) := by rw [cell_blk h]; show some (Value.string c.name) = _; rw [hn]
  clear h hn
  go_enter Tryz.func30, Tryz.ntmps30
  go_wp2_with fail
  go_ret
  exact ⟨rfl, rfl⟩

set_option maxRecDepth 100000 in
set_option maxHeartbeats 2000000 in
theorem do_of_pu {w : World} {bb rb : Nat} {S : BS} {F : Blocks} {fr tt d : Int} {reg : Int} {range dest : Value} {arg : ByteArray} {pat rep flags : ByteArray} {bang : Bool} (hB : BMem w bb S F) (hi1 : 0 ≤ fr) (hi2 : fr ≤ tt) (hi3 : tt ≤ (S.lines.length : Int)) (_hmost : S.lines.length ≤ 100000)
    {R : Ending → World → Prop} (hR : Gives R) (hm : Does w 51 ⟨range, ⟨#[112, 117]⟩, bang, reg, -1, dest, .string pat, .string rep, .string flags, arg⟩ bb rb fr tt d R) :
    Calls Tryz.prog 10 #[.pointer (some ⟨bb, 0, none⟩), .pointer (some ⟨rb, 0, none⟩), .agg #[range, .string ⟨#[112, 117]⟩, .bool bang, .int .u8 reg, .int .i64 (-1), dest, .string pat, .string rep, .string flags, .string arg], .int .i64 fr, .int .i64 tt, .int .i64 d] w (Told R) := by
  obtain ⟨tb, kb, oa, on, oc, q1, c0, q4, q6, q7, qf, ⟨FT, hT, hTd, -⟩, -⟩ := hB.cells
  have hbb : bb < w.heap.size := hB.lt _ hB.has
  have HT : Kp _ := ⟨hT⟩
  have HR : Kp _ := ⟨hR⟩
  have HM : Kp _ := ⟨hm⟩
  have hi5 : ¬ (S.lines.length : Int) < tt := by omega
  have hi6 : 0 ≤ fr := by omega
  clear q1 q4 q6 q7 qf hT hTd hB hR hm
  cases hz : (fr == 0)
  all_goals
    go_enter Tryz.func10, Tryz.ntmps10
    go_wp2_with fail
    refine (len_text (HT.out.keep ((Keep.refl w NoB).alloc _) fun _ _ h => h)).mono ?_
    rintro e w' ⟨rfl, q, rfl⟩
    go_wp2_with fail
    have hsz : ((w.alloc (.cells #[range, .string ⟨#[112, 117]⟩, .bool bang, .int .u8 reg, .int .i64 (-1), dest, .string pat, .string rep, .string flags, .string arg] 36)).drewN q).heap.size = w.heap.size + 1 := by simp
    have hK0 : Keep w NoB ((w.alloc (.cells #[range, .string ⟨#[112, 117]⟩, .bool bang, .int .u8 reg, .int .i64 (-1), dest, .string pat, .string rep, .string flags, .string arg] 36)).drewN q) := ((Keep.refl w NoB).alloc _).drewN q
    generalize (w.alloc (.cells #[range, .string ⟨#[112, 117]⟩, .bool bang, .int .u8 reg, .int .i64 (-1), dest, .string pat, .string rep, .string flags, .string arg] 36)).drewN q = W0 at *
    have hK1 := hK0.alloc (.cells (WCells ⟨range, ⟨#[112, 117]⟩, bang, reg, -1, dest, .string pat, .string rep, .string flags, arg⟩ bb rb fr tt d) 72)
    have hW : WMem (W0.alloc (.cells (WCells ⟨range, ⟨#[112, 117]⟩, bang, reg, -1, dest, .string pat, .string rep, .string flags, arg⟩ bb rb fr tt d) 72)) (w.heap.size + 1) ⟨range, ⟨#[112, 117]⟩, bang, reg, -1, dest, .string pat, .string rep, .string flags, arg⟩ bb rb fr tt d := by
      have := heap_alloc_new W0 (.cells (WCells ⟨range, ⟨#[112, 117]⟩, bang, reg, -1, dest, .string pat, .string rep, .string flags, arg⟩ bb rb fr tt d) 72)
      rw [hsz] at this
      exact this
    unfold WCells at hK1 hW
    generalize (W0.alloc _) = V at *
    have HW : Kp _ := ⟨hW⟩
    have HK1 : Kp _ := ⟨hK1⟩
    clear hW hK1 hK0 hsz
    refine (way_of_pu HW.out rfl).mono ?_
    rintro e w' ⟨rfl, rfl⟩
    go_wp2_with fail
    refine (HM.out V (w.heap.size + 1) HK1.out (by omega) HW.out).mono ?_
    intro e w2 hr
    obtain ⟨v, he⟩ := HR.out e w2 hr
    subst he
    have HRR : Kp _ := ⟨hr⟩
    clear hr
    go_wp2_with fail
    go_ret2
    exact ⟨_, HRR.out, rfl⟩

end Go.Proofs

/- The walk of regs.Cut, of the nameless register. -/
namespace Go.Proofs
open Go.RowKit Go.Em

/-- A value lies in blocks of the registers that no call writes. -/
def Lies (w : World) (rb : Nat) (G : Blocks) (v : Value) (x : RegD) : Prop :=
  ∃ H, RegV w H v x ∧ (∀ b, H b → G b ∧ b ≠ rb ∧ ∀ mb, w.cell? ⟨rb, 0, none⟩ = some (.map (some mb)) → b ≠ mb)
theorem RMem.look {w : World} {rb : Nat} {f : Int → Option RegD} {G : Blocks} (h : RMem w rb f G) (k : Int) :
    ∃ mb, w.cell? ⟨rb, 0, none⟩ = some (.map (some mb)) ∧
      ((f k = none ∧ (Instr.lookup 66 (.map (some mb)) (.int .u8 k) true).run Tryz.prog w = .ok (.tuple #[.agg #[.slice none 0 0, .bool false], .bool false]) w) ∨
       ∃ (x : RegD) (a : Option Addr) (n c : Nat), f k = some x ∧ (Instr.lookup 66 (.map (some mb)) (.int .u8 k) true).run Tryz.prog w = .ok (.tuple #[.agg #[.slice a n c, .bool x.2], .bool true]) w ∧ Lies w rb G (.agg #[.slice a n c, .bool x.2]) x) := by
  obtain ⟨mb, g, H, hne, hb, hm, hc, hrH, hmH, hG, hlt⟩ := h
  have e0 : w.cell? ⟨rb, 0, none⟩ = some (.map (some mb)) := by rw [cell_blk hb]; rfl
  have hl := hm.look_ok Tryz.underlying66 Tryz.underlying5 (zero_reg w) k
  refine ⟨mb, e0, ?_⟩
  rcases hc k with ⟨h1, h2⟩ | ⟨x, v, h1, h2, hv⟩
  · rw [h2] at hl
    exact .inl ⟨h1, hl⟩
  · rw [h2] at hl
    have hv' := hv
    obtain ⟨a, n, c, b, rfl, _⟩ := hv'
    refine .inr ⟨x, a, n, c, h1, hl, H, hv, fun b hHb => ⟨(hG b).2 (.inr (.inr hHb)), fun e => hrH (e ▸ hHb), fun mb' he e => ?_⟩⟩
    rw [e0] at he
    cases he
    exact hmH (e ▸ hHb)
def fdel (f : Int → Option RegD) (k : Int) : Int → Option RegD := fun j => if j = k then none else f j
theorem RMem.del {w : World} {rb : Nat} {f : Int → Option RegD} {G : Blocks} (h : RMem w rb f G) (k : Int) (ty : TypeId) :
    ∃ mb o, w.cell? ⟨rb, 0, none⟩ = some (.map (some mb)) ∧ (Builtin.delete_ #[66, 5] ty #[.map (some mb), .int .u8 k]).run Tryz.prog w = .ok (.tuple #[]) (setB w mb o) ∧ RMem (setB w mb o) rb (fdel f k) G ∧ Keep w G (setB w mb o) := by
  obtain ⟨mb, g, H, hne, hb, hm, hc, hrH, hmH, hG, hlt⟩ := h
  have e0 : w.cell? ⟨rb, 0, none⟩ = some (.map (some mb)) := by rw [cell_blk hb]; rfl
  obtain ⟨o, hrun, hm2⟩ := hm.del (P := Tryz.prog) Tryz.underlying66 Tryz.underlying5 ty k
  have hk : Keep w (One mb) (setB w mb o) := (Keep.refl w (One mb)).setB (.inl rfl)
  have hd : Dis H (One mb) := fun b hb e => by cases e; exact hmH hb
  refine ⟨mb, o, e0, hrun, ⟨mb, _, H, hne, hk.blk hb fun e => hne e, hm2, fun j => ?_, hrH, hmH, hG, fun b hb => by rw [setB_size]; exact hlt b hb⟩, hk.mono fun b e => by cases e; exact (hG _).2 (.inr (.inl rfl))⟩
  unfold fdel upd
  by_cases hj : j = k
  · rw [if_pos hj, if_pos hj]
    exact .inl ⟨rfl, rfl⟩
  · rw [if_neg hj, if_neg hj]
    rcases hc j with h | ⟨y, u, e1, e2, h⟩
    · exact .inl h
    · exact .inr ⟨y, u, e1, e2, h.keep hk hd⟩

/-- The deleted ones go on by one. -/
def cutN (f : Int → Option RegD) : Nat → Int → Option RegD
  | 0 => f
  | k + 1 => fun j => if j = 57 - (k : Int) then cutN f k (57 - (k : Int) - 1) else cutN f k j
/-- What Cut makes of registers. -/
def cutF (f : Int → Option RegD) (x : RegD) : Int → Option RegD := fput (cutN (fput (fput f 34 x) 34 x) 8) 49 x
theorem cutN_other (f : Int → Option RegD) {j : Int} (hj : j < 49 ∨ 57 < j) : ∀ k : Nat, k ≤ 8 → cutN f k j = f j
  | 0, _ => rfl
  | k + 1, hk => by
    unfold cutN
    rw [if_neg (by omega)]
    exact cutN_other f hj k (by omega)
theorem cutN_put (f : Int → Option RegD) (k : Nat) {y : RegD} (h : cutN f k (57 - (k : Int) - 1) = some y) : fput (cutN f k) (57 - (k : Int)) y = cutN f (k + 1) := by
  funext j
  show (if j = 57 - (k : Int) then some y else cutN f k j) = (if j = 57 - (k : Int) then cutN f k (57 - (k : Int) - 1) else cutN f k j)
  rw [h]
theorem cutN_del (f : Int → Option RegD) (k : Nat) (h : cutN f k (57 - (k : Int) - 1) = none) : fdel (cutN f k) (57 - (k : Int)) = cutN f (k + 1) := by
  funext j
  show (if j = 57 - (k : Int) then none else cutN f k j) = (if j = 57 - (k : Int) then cutN f k (57 - (k : Int) - 1) else cutN f k j)
  rw [h]
theorem cutF_nameless (f : Int → Option RegD) (x : RegD) : cutF f x 34 = some x := by
  unfold cutF fput
  rw [if_neg (by omega), cutN_other _ (.inl (by omega)) 8 (by omega), if_pos rfl]

set_option maxRecDepth 100000 in
set_option maxHeartbeats 4000000 in
theorem cut_ok {w : World} {rb : Nat} {f : Int → Option RegD} {G : Blocks} (h : RMem w rb f G)
    {a : Option Addr} {n c : Nat} {xs : List ByteArray} {wh : Bool} (hr : Rd w 1 a n (vstr xs)) (hx : xs ≠ []) (hw : weigh xs ≤ 20000) :
    Calls Tryz.prog 80 #[.pointer (some ⟨rb, 0, none⟩), .int .u8 34, .agg #[.slice a n c, .bool wh]] w fun e w' => ∃ G', e = .returned (.int .u16 0) ∧ RMem w' rb (cutF f (xs, wh)) G' ∧ Keep w G w' ∧ Fresh w G G' := by
  have HR : Kp _ := ⟨h⟩
  have HX : Kp _ := ⟨hx⟩
  have HW : Kp _ := ⟨hw⟩
  have hnn : xs.length = n := by have := hr.len; rw [vstr_length, Nat.mul_one] at this; exact this
  have hn : n ≤ 1048576 := by have := weigh_ge xs; omega
  have HRD : Kp (Rd (w.alloc (.cells #[.slice a n c, .bool wh] 54)) 1 a n (vstr xs)) := ⟨hr.keep ((Keep.refl w NoB).alloc _) fun _ _ h => h⟩
  have hK : Keep w NoB (w.alloc (.cells #[.slice a n c, .bool wh] 54)) := (Keep.refl w NoB).alloc _
  have hx1 : (w.alloc (.cells #[.slice a n c, .bool wh] 54)).heap[w.heap.size]? = some (.cells #[.slice a n c, .bool wh] 54 (0, 0)) := heap_alloc_new w _
  have hsz : (w.alloc (.cells #[.slice a n c, .bool wh] 54)).heap.size = w.heap.size + 1 := by simp
  have HN : Kp _ := ⟨hnn⟩
  have HGL : Kp _ := ⟨h.lt⟩
  clear h hx hw hr hnn
  go_enter Tryz.func80, Tryz.ntmps80
  go_wp2_with fail
  generalize (w.alloc (.cells #[.slice a n c, .bool wh] 54)) = W at *
  refine (clone_reg HRD.out hn HX.out).mono ?_
  rintro e w3 ⟨a', c', b', rfl, s3, k3, f3⟩
  have g1 := k3.blk hx1 fun h => h
  have e10 : w3.cell? ⟨w.heap.size, 0, none⟩ = some (.slice a n c) := by rw [cell_blk g1]; rfl
  have e11 : w3.cell? ⟨w.heap.size, 1, none⟩ = some (.bool wh) := by rw [cell_blk g1]; rfl
  have z0 := free_blk g1 0
  have z1 := free_blk g1 1
  have hfr : ∀ g, b' = some g → w.heap.size + 1 ≤ g := fun g hg => by
    have := (f3 g hg).resolve_left (fun h => h)
    omega
  have S3 : Kp _ := ⟨s3⟩
  have K3 : Kp (Keep w NoB w3) := ⟨hK.trans k3 (Fresh.refl _ _)⟩
  have HFR : Kp _ := ⟨hfr⟩
  have G1 : Kp _ := ⟨g1⟩
  clear s3 k3 f3 g1 hfr hK hx1 HRD
  go_wp2_with fail
  have hg := Go.Em.heap_setCell_same (Go.Em.heap_setCell_same G1.out 0 (.slice a' n c')) 1 (.bool wh)
  have HK4 : Kp (Keep w NoB ((w3.setCell ⟨w.heap.size, 0, none⟩ (.slice a' n c')).setCell ⟨w.heap.size, 1, none⟩ (.bool wh))) := ⟨(K3.out.setCell (a := ⟨w.heap.size, 0, none⟩) (.inr (Nat.le_refl _)) _).setCell (a := ⟨w.heap.size, 1, none⟩) (.inr (Nat.le_refl _)) _⟩
  have hne : ∀ g, b' = some g → g ≠ w.heap.size := fun g hg => by have := HFR.out g hg; omega
  have S4 : Kp (Sl ((w3.setCell ⟨w.heap.size, 0, none⟩ (.slice a' n c')).setCell ⟨w.heap.size, 1, none⟩ (.bool wh)) 9 1 a' n c' (vstr xs) b') :=
    ⟨S3.out.move fun g hg => (Below.heap_setCell _ ⟨w.heap.size, 1, none⟩ _ g (hne g hg)).trans (Below.heap_setCell w3 ⟨w.heap.size, 0, none⟩ _ g (hne g hg))⟩
  generalize ((w3.setCell ⟨w.heap.size, 0, none⟩ (.slice a' n c')).setCell ⟨w.heap.size, 1, none⟩ (.bool wh)) = V at *
  have HV : Kp _ := ⟨hg⟩
  clear e10 e11 z0 z1 S3 K3 G1 hne hg hsz
  have hbG : ∀ g, b' = some g → ¬ G g := fun g hg hG => by have := HGL.out g hG; have := HFR.out g hg; omega
  obtain ⟨mb, H, hG, hcm, hMR⟩ : ∃ mb, ∃ H : Blocks, (∀ b, G b ↔ b = rb ∨ b = mb ∨ H b) ∧ w.cell? ⟨rb, 0, none⟩ = some (.map (some mb)) ∧ rb ≠ mb := by
    obtain ⟨mb, g, H, hne, hb, hm, hc, hrH, hmH, hG, hlt⟩ := HR.out
    exact ⟨mb, H, hG, by rw [cell_blk hb]; rfl, by first | exact hne | exact fun e => hne e.symm⟩
  have hRV : RMem V rb f G := HR.out.keep HK4.out fun _ _ h => h
  refine (lay_ok hRV (name := 34) (by omega) (by omega) (by rfl) (by omega) (by rfl) S4.out hbG HX.out HW.out).mono ?_
  rintro e W2 ⟨rfl, r2, k2, c2⟩
  have hrbl : rb < V.heap.size := hRV.lt _ ((hG rb).2 (.inl rfl))
  have g2 := k2.blk HV.out (fun h => by have := HGL.out _ h; omega)
  have s2 : Sl W2 9 1 a' n c' (vstr xs) b' := S4.out.keep k2 hbG
  have cV : V.cell? ⟨rb, 0, none⟩ = some (.map (some mb)) := HK4.out.cell hcm fun h => h
  have c2' : W2.cell? ⟨rb, 0, none⟩ = some (.map (some mb)) := c2.trans cV
  have hfr2 : Fresh w G (Or2 G (Opt b')) := fun b hb => hb.imp id fun e => (by have := HFR.out b e; omega)
  have hbm : ∀ g, b' = some g → g ≠ mb := fun g hg e => hbG g hg ((hG g).2 (.inr (.inl e)))
  have hbr : ∀ g, b' = some g → g ≠ rb := fun g hg e => hbG g hg ((hG g).2 (.inl e))
  have HNR : Kp (rb ≠ mb) := ⟨hMR⟩
  have hGmb : G mb := (hG mb).2 (.inr (.inl rfl))
  have HK2 : Kp (Keep w G W2) := ⟨(HK4.out.mono fun _ h => h.elim).trans k2 (Fresh.refl _ _)⟩
  have R2 : Kp _ := ⟨r2⟩
  have S2 : Kp _ := ⟨s2⟩
  have G2 : Kp _ := ⟨g2⟩
  have HFR2 : Kp _ := ⟨hfr2⟩
  have HBM : Kp _ := ⟨hbm⟩
  have HBR : Kp _ := ⟨hbr⟩
  have HGM : Kp _ := ⟨hGmb⟩
  have HBG : Kp _ := ⟨hbG⟩
  have C2 : Kp _ := ⟨c2'⟩
  have hwl : w.heap.size < W2.heap.size := (Array.getElem?_eq_some_iff.1 g2).1
  have HGW : Kp (¬ (Or2 G (Opt b')) w.heap.size) := ⟨fun h => by
    rcases h with h | h
    · have := HGL.out _ h; omega
    · have := HFR.out _ h; omega⟩
  clear r2 k2 hfr2 hbm hbr hcm c2 cV hbG hrbl hRV s2 g2 hG HK4 S4 HV HR HN c2' hGmb
  go_wp2_with fail
  go_loopw [8] (fun j wr => ∃ k : Nat, k ≤ 8 ∧ j = .int .u8 (57 - (k : Int)) ∧ Kp (RMem wr rb (cutN (fput (fput f 34 (xs, wh)) 34 (xs, wh)) k) (Or2 G (Opt b'))) ∧ Kp (Keep w G wr) ∧ Kp (wr.cell? ⟨rb, 0, none⟩ = some (.map (some mb))) ∧
      Kp (Keep W2 G wr)) (fun j _ => (intOf j).toNat)
  case atStart => exact ⟨0, by omega, rfl, R2, HK2, C2, ⟨Keep.refl _ _⟩⟩
  case round =>
    obtain ⟨k, hk, rfl, R, K, C, K2⟩ := hrel
    have c0 := C.out
    by_cases hk8 : k = 8
    · subst hk8
      have g2 := K2.out.blk G2.out fun h => HGW.out (.inl h)
      have d0 : wr.cell? ⟨w.heap.size, 0, none⟩ = some (.slice a' n c') := by rw [cell_blk g2]; rfl
      have d1 : wr.cell? ⟨w.heap.size, 1, none⟩ = some (.bool wh) := by rw [cell_blk g2]; rfl
      have S5 : Kp _ := ⟨S2.out.keep K2.out HBG.out⟩
      have hval : ∃ H, RegV wr.drew H (.agg #[.slice a' n c', .bool wh]) (xs, wh) ∧ (∀ b, H b → (Or2 G (Opt b')) b ∧ b ≠ rb ∧ ∀ mb, wr.drew.cell? ⟨rb, 0, none⟩ = some (.map (some mb)) → b ≠ mb) :=
        ⟨Opt b', ⟨a', n, c', b', rfl, S5.out.keep (Keep.refl wr NoB).drew fun _ _ h => h, fun g hg => hg, HW.out, HX.out⟩, fun b hb => ⟨.inr hb, HBR.out b hb, fun m hm => by
          have : wr.drew.cell? ⟨rb, 0, none⟩ = some (.map (some mb)) := c0
          rw [this] at hm; cases hm; exact HBM.out b hb⟩⟩
      obtain ⟨mb', o, hcm', hrun, r3, k3⟩ := (R.out.keep (Keep.refl wr NoB).drew fun _ _ h => h : RMem wr.drew _ _ _).put hval 49
      have hme : mb' = mb := by
        have : wr.drew.cell? ⟨rb, 0, none⟩ = some (.map (some mb)) := c0
        rw [this] at hcm'; cases hcm'; rfl
      subst hme
      have R3 : Kp _ := ⟨r3⟩
      have K3 : Kp (Keep w G (setB wr.drew mb' o)) := ⟨K.out.drew.setB (.inl HGM.out)⟩
      clear hval r3 k3 hcm' g2
      go_wp2_with fail
      refine wp_region_pl (fun W' => W'.cell? ⟨rb, 0, none⟩ = some (.map (some mb')) ∧ W'.cell? ⟨w.heap.size, 0, none⟩ = some (.slice a' n c') ∧ W'.cell? ⟨w.heap.size, 1, none⟩ = some (.bool wh))
        (.run 0 5 .done) 5 (by kernel_rfl) (by kernel_rfl) (fun _ _ d _ _ h => by cases d <;> exact h) ⟨c0, d0, d1⟩ ?_
      iterate 5
        (refine' pl_read _ rfl rfl ?_ ?_
         rotate_left
         · (intro W' hW'; (try dsimp only at hW'); obtain ⟨q0, q1, q2⟩ := hW'; go_simp; try rfl)
         simp only [Act.put, List.setIfInBounds_toArray, List.set_cons_zero, List.set_cons_succ])
      refine pl_end ?_
      simp only [List.drop_succ_cons, List.drop_zero]
      go_wp2_with fail
      go_ret
      exact ⟨_, rfl, R3.out, K3.out, HFR2.out⟩
    · have hlt : k < 8 := by omega
      have hgt : (57 - (k : Int) > 49) := by omega
      obtain ⟨mb2, c1, hlk⟩ := R.out.look (57 - (k : Int) - 1)
      rw [c0] at c1
      cases c1
      rcases hlk with ⟨hn, hl⟩ | ⟨y, a3, n3, c3, hy, hl, hv⟩
      · have RA : Kp (RMem (wr.alloc (.cells #[.slice none 0 0, .bool false] 54)) rb _ _) := ⟨R.out.keep ((Keep.refl wr NoB).alloc _) fun _ _ h => h⟩
        obtain ⟨mb2, o, c1, hrun, r3, k3⟩ := RA.out.del (57 - (k : Int)) 0
        have c2 : (wr.alloc (.cells #[.slice none 0 0, .bool false] 54)).cell? ⟨rb, 0, none⟩ = some (.map (some mb)) := ((Keep.refl wr NoB).alloc _).cell c0 fun h => h
        rw [c2] at c1
        cases c1
        have K4 : Kp (Keep w G (setB (wr.alloc (.cells #[.slice none 0 0, .bool false] 54)) mb o)) := ⟨(K.out.alloc _).setB (.inl HGM.out)⟩
        have K5 : Kp (Keep W2 G (setB (wr.alloc (.cells #[.slice none 0 0, .bool false] 54)) mb o)) := ⟨(K2.out.alloc _).setB (.inl HGM.out)⟩
        have C4 : Kp ((setB (wr.alloc (.cells #[.slice none 0 0, .bool false] 54)) mb o).cell? ⟨rb, 0, none⟩ = some (.map (some mb))) := ⟨(setB_cell HNR.out).trans c2⟩
        have R3 : Kp _ := ⟨r3⟩
        have HN : Kp _ := ⟨hn⟩
        clear hk r3 k3 hn
        go_wp2_with fail
        generalize (setB (wr.alloc (.cells #[.slice none 0 0, .bool false] 54)) mb o) = X at *
        go_roundw
        case rel => exact ⟨k + 1, by omega, by congr 1; omega, ⟨(cutN_del _ k HN.out) ▸ R3.out⟩, K4, C4, K5⟩
        case measure => simp [intOf]; omega
      · have hA : Keep wr NoB (wr.alloc (.cells #[.slice a3 n3 c3, .bool y.2] 54)) := (Keep.refl wr NoB).alloc _
        have RA : RMem (wr.alloc (.cells #[.slice a3 n3 c3, .bool y.2] 54)).drew rb _ _ := R.out.keep hA.drew fun _ _ h => h
        have c2 : (wr.alloc (.cells #[.slice a3 n3 c3, .bool y.2] 54)).cell? ⟨rb, 0, none⟩ = some (.map (some mb)) := hA.cell c0 fun h => h
        have hgN : (wr.alloc (.cells #[.slice a3 n3 c3, .bool y.2] 54)).heap[wr.heap.size]? = some (.cells #[.slice a3 n3 c3, .bool y.2] 54 (0, 0)) := heap_alloc_new wr _
        have d0 : (wr.alloc (.cells #[.slice a3 n3 c3, .bool y.2] 54)).cell? ⟨wr.heap.size, 0, none⟩ = some (.slice a3 n3 c3) := by rw [cell_blk hgN]; rfl
        have d1 : (wr.alloc (.cells #[.slice a3 n3 c3, .bool y.2] 54)).cell? ⟨wr.heap.size, 1, none⟩ = some (.bool y.2) := by rw [cell_blk hgN]; rfl
        have hval : ∃ H, RegV (wr.alloc (.cells #[.slice a3 n3 c3, .bool y.2] 54)).drew H (.agg #[.slice a3 n3 c3, .bool y.2]) y ∧ (∀ b, H b → (Or2 G (Opt b')) b ∧ b ≠ rb ∧ ∀ mb, (wr.alloc (.cells #[.slice a3 n3 c3, .bool y.2] 54)).drew.cell? ⟨rb, 0, none⟩ = some (.map (some mb)) → b ≠ mb) := by
          obtain ⟨H', h1, h2⟩ := hv
          refine ⟨H', h1.keep hA.drew fun _ _ h => h, fun b hb => ⟨(h2 b hb).1, (h2 b hb).2.1, fun m hm => (h2 b hb).2.2 m ?_⟩⟩
          have : (wr.alloc (.cells #[.slice a3 n3 c3, .bool y.2] 54)).drew.cell? ⟨rb, 0, none⟩ = some (.map (some mb)) := c2
          rw [this] at hm; cases hm; exact c0
        obtain ⟨mb', o, hcm', hrun, r3, k3⟩ := RA.put hval (57 - (k : Int))
        have hme : mb' = mb := by
          have : (wr.alloc (.cells #[.slice a3 n3 c3, .bool y.2] 54)).drew.cell? ⟨rb, 0, none⟩ = some (.map (some mb)) := c2
          rw [this] at hcm'; cases hcm'; rfl
        subst hme
        have K4 : Kp (Keep w G (setB (wr.alloc (.cells #[.slice a3 n3 c3, .bool y.2] 54)).drew mb' o)) := ⟨(K.out.alloc _).drew.setB (.inl HGM.out)⟩
        have K5 : Kp (Keep W2 G (setB (wr.alloc (.cells #[.slice a3 n3 c3, .bool y.2] 54)).drew mb' o)) := ⟨(K2.out.alloc _).drew.setB (.inl HGM.out)⟩
        have C4 : Kp ((setB (wr.alloc (.cells #[.slice a3 n3 c3, .bool y.2] 54)).drew mb' o).cell? ⟨rb, 0, none⟩ = some (.map (some mb'))) := ⟨(setB_cell HNR.out).trans c2⟩
        have R3 : Kp _ := ⟨r3⟩
        have HY : Kp _ := ⟨hy⟩
        clear hk r3 k3 hy hgN hcm' hA RA hval hv
        go_wp2_with fail
        generalize (wr.alloc (.cells #[.slice a3 n3 c3, .bool y.2] 54)) = X at *
        refine wp_region_pl (fun W' => W'.cell? ⟨rb, 0, none⟩ = some (.map (some mb')) ∧ W'.cell? ⟨wr.heap.size, 0, none⟩ = some (.slice a3 n3 c3) ∧ W'.cell? ⟨wr.heap.size, 1, none⟩ = some (.bool y.2))
          (.run 0 6 .done) 6 (by kernel_rfl) (by kernel_rfl) (fun _ _ d _ _ h => by cases d <;> exact h) ⟨c2, d0, d1⟩ ?_
        iterate 6
          (refine' pl_read _ rfl rfl ?_ ?_
           rotate_left
           · (intro W' hW'; (try dsimp only at hW'); obtain ⟨q0, q1, q2⟩ := hW'; go_simp; try rfl)
           simp only [Act.put, List.setIfInBounds_toArray, List.set_cons_zero, List.set_cons_succ])
        refine pl_end ?_
        simp only [List.drop_succ_cons, List.drop_zero]
        go_wp2_with fail
        generalize (setB X.drew mb' o) = Y at *
        go_roundw
        case rel => exact ⟨k + 1, by omega, by congr 1; omega, ⟨(cutN_put _ k HY.out) ▸ R3.out⟩, K4, C4, K5⟩
        case measure => simp [intOf]; omega

end Go.Proofs
