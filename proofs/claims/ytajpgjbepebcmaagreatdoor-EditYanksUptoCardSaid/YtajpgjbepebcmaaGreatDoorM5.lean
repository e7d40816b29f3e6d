/- EditYanks: the law answers true at every input of bulk at most 1048576, and each argument reads afterwards as it read before. Its card: what the row lists of the library's tables is tied to the program's text by the given tie. -/
import Derived.Test.YtajpgjbepebcmaaGreatDoorM4
import Derived.Laws.ResultCell
import Derived.Shelf.Strings.SlTrimAscii
import Derived.Deep.DeepLaidRun
/- The walks of regs.Yank and Get, of a register whose name is small. -/
namespace Go.Em
open Go.RowKit
theorem results_cell_row_tmp {P : Program} {fn : Func} {p u : Tmp} {ty : TypeId} (h : fn.results = #[.cell p ty, .tmp u]) (tmps : Array Value) (w : World) (g : Nat) (t : TypeId) (cs : Array Value) (fr : Nat × Nat) (d : TypeDesc)
    (hp : tmps.getD p undef = .pointer (some ⟨g, 0, none⟩)) (hg : w.heap[g]? = some (.cells cs t fr))
    (hu : P.underlying ty = some d) (hd : (match d with | .struct _ | .array _ _ => true | _ => false) = true) (hi : (P.info? ty).map (·.size) = some cs.size) {v : Value} (hv : tmps.getD u undef = v) :
    (results fn tmps).run P w = .ok (.tuple #[.agg cs, v]) w := by
  rw [results_cell_tmp h, hp, hv]
  simp [asAddr, run_loadVar_row w g t ty cs fr d hg hu hd hi, Result.andThen]
end Go.Em
namespace Go.Proofs
open Go.RowKit Go.Em

/-- What Yank makes of registers. -/
def yankF (f : Int → Option RegD) (name : Int) (x : RegD) : Int → Option RegD := if name = 34 then fput (fput (fput f name x) 34 x) 48 x else fput (fput f name x) 34 x

set_option maxRecDepth 100000 in
set_option maxHeartbeats 2000000 in
theorem get_ok {w : World} {rb : Nat} {f : Int → Option RegD} {G : Blocks} (h : RMem w rb f G) {name : Int} (h0 : 0 ≤ name) (h1 : name < 256) (hk : knownReg name = true) (hsm : rng 65 90 name = false) {x : RegD} (hx : f name = some x) :
    Calls Tryz.prog 17 #[.pointer (some ⟨rb, 0, none⟩), .int .u8 name] w fun e w' => ∃ a c b, e = .returned (.tuple #[.agg #[.slice a x.1.length c, .bool x.2], .int .u16 0]) ∧
      Sl w' 9 1 a x.1.length c (vstr x.1) b ∧ Keep w NoB w' ∧ Fresh w NoB (Opt b) := by
  obtain ⟨mb, g, H, hne, hb, hm, hc, hrH, hmH, hG, hlt⟩ := h
  obtain ⟨x', v, e1, e2, a0, n0, c0, b0, rfl, hs, hbH, hw, hxx⟩ := (hc name).resolve_left fun h => by rw [h.1] at hx; cases hx
  rw [hx] at e1
  cases e1
  have hn0 : n0 = x.1.length := by have := hs.len; rw [vstr_length, Nat.mul_one] at this; exact this.symm
  subst hn0
  have hold : ∀ W, MapIs W mb .u8 g → (Instr.lookup 66 (.map (some mb)) (.int .u8 name) true).run Tryz.prog W = .ok (.tuple #[.agg #[.slice a0 x.1.length c0, .bool x.2], .bool true]) W := fun W hW => by
    have := hW.look_ok Tryz.underlying66 Tryz.underlying5 (zero_reg W) name
    rw [e2] at this; exact this
  have hrb : rb < w.heap.size := hlt rb ((hG rb).2 (.inl rfl))
  have e0 : w.cell? ⟨rb, 0, none⟩ = some (.map (some mb)) := by rw [cell_blk hb]; rfl
  have HM : Kp _ := ⟨hm⟩
  have HS : Kp _ := ⟨hs⟩
  have HX : Kp _ := ⟨hxx⟩
  have HW : Kp _ := ⟨hw⟩
  have HO : Kp _ := ⟨hold⟩
  clear hm hc hG hlt hs hb hne hrH hmH hx e2 hbH hold hxx hw
  go_enter Tryz.func17, Tryz.ntmps17
  go_wp2_with fail
  have hsz : (w.alloc (.cells #[.slice none 0 0, .bool false] 54)).heap.size = w.heap.size + 1 := by simp
  have hK : Keep w NoB (w.alloc (.cells #[.slice none 0 0, .bool false] 54)) := (Keep.refl w NoB).alloc _
  have hx1 : (w.alloc (.cells #[.slice none 0 0, .bool false] 54)).heap[w.heap.size]? = some (.cells #[.slice none 0 0, .bool false] 54 (0, 0)) := heap_alloc_new w _
  generalize (w.alloc (.cells #[.slice none 0 0, .bool false] 54)) = W at *
  have HK : Kp _ := ⟨hK⟩
  refine wp_region_pl (fun W' => W'.cell? ⟨rb, 0, none⟩ = some (.map (some mb)) ∧ MapIs W' mb .u8 g)
    (.run 0 5 (.two 5 (.run 6 4 (.ac 10 (.ac 11 (.ac 12 .done)))) 10 (.ac 5 (.run 6 4 (.ac 11 (.ac 12 .done)))))) 13 (by kernel_rfl) (by kernel_rfl) (fun _ _ d _ _ h => by cases d <;> exact h) ⟨hK.drew.cell e0 fun h => h, HM.out.keep hK.drew fun h => h⟩ ?_
  clear hK
  iterate 5
    (refine' pl_read _ rfl rfl ?_ ?_
     rotate_left
     · (intro W' hW'; (try dsimp only at hW'); obtain ⟨q0, q1⟩ := hW'; go_simp; try rfl)
     simp only [Act.put, List.setIfInBounds_toArray, List.set_cons_zero, List.set_cons_succ])
  have hT1 : W.drew.cell? ⟨rb, 0, none⟩ = some (.map (some mb)) ∧ MapIs W.drew mb .u8 g := ⟨HK.out.drew.cell e0 fun h => h, HM.out.keep HK.out.drew fun h => h⟩
  have hT2 : ∀ o, (W.alloc o).drew.cell? ⟨rb, 0, none⟩ = some (.map (some mb)) ∧ MapIs (W.alloc o).drew mb .u8 g := fun o => ⟨(HK.out.alloc o).drew.cell e0 fun h => h, HM.out.keep (HK.out.alloc o).drew fun h => h⟩
  have HT1 : Kp _ := ⟨hT1⟩
  have HT2 : Kp _ := ⟨hT2⟩
  clear hT1 hT2
  refine pl_two _ _ rfl rfl ?_ ?_
  go_wp2_with ((with_reducible refine (Small_calls _ _ h0 h1).mono ?_)
               rintro e w' ⟨rfl, rfl⟩
               simp only [hsm, Bool.false_eq_true, if_false])
  refine ⟨HT1.out, ?_⟩
  refine' pl_read _ rfl rfl ?_ ?_
  rotate_left
  · intro W' hW'
    have hl := HO.out W' hW'.2
    go_simp
    try rfl
  simp only [Act.put, List.setIfInBounds_toArray, List.set_cons_zero, List.set_cons_succ]
  iterate 3
    (refine' pl_read _ rfl rfl ?_ ?_
     rotate_left
     · (intro W' hW'; (try dsimp only at hW'); go_simp; try rfl)
     simp only [Act.put, List.setIfInBounds_toArray, List.set_cons_zero, List.set_cons_succ])
  refine pl_do _ rfl ?_
  go_wp2_with fail
  refine ⟨HT2.out _, ?_⟩
  refine pl_do _ rfl ?_
  go_wp2_with fail
  refine ⟨HT2.out _, ?_⟩
  refine pl_do _ rfl ?_
  go_wp2_with fail
  refine ⟨HT2.out _, ?_⟩
  refine pl_end ?_
  rotate_left
  go_wp2_with fail
  refine ⟨HT2.out _, ?_⟩
  refine pl_do _ rfl ?_
  go_wp2_with ((with_reducible refine (Small_calls _ _ h0 h1).mono ?_)
               rintro e w' ⟨rfl, rfl⟩
               simp only [hsm, Bool.false_eq_true, if_false])
  refine ⟨HT2.out _, ?_⟩
  refine' pl_read _ rfl rfl ?_ ?_
  rotate_left
  · intro W' hW'
    have hl := HO.out W' hW'.2
    go_simp
    try rfl
  simp only [Act.put, List.setIfInBounds_toArray, List.set_cons_zero, List.set_cons_succ]
  iterate 3
    (refine' pl_read _ rfl rfl ?_ ?_
     rotate_left
     · (intro W' hW'; (try dsimp only at hW'); go_simp; try rfl)
     simp only [Act.put, List.setIfInBounds_toArray, List.set_cons_zero, List.set_cons_succ])
  refine pl_do _ rfl ?_
  go_wp2_with fail
  refine ⟨HT2.out _, ?_⟩
  refine pl_do _ rfl ?_
  go_wp2_with fail
  refine ⟨HT2.out _, ?_⟩
  refine pl_end ?_
  all_goals
    have HK2 : Kp (Keep w NoB (W.alloc (.cells #[.slice a0 x.1.length c0, .bool x.2] 54)).drew) := ⟨(HK.out.alloc _).drew⟩
    have hs2 : (W.alloc (.cells #[.slice a0 x.1.length c0, .bool x.2] 54)).drew.heap.size = w.heap.size + 2 := by simp [hsz]
    have hy2 : (W.alloc (.cells #[.slice a0 x.1.length c0, .bool x.2] 54)).drew.heap[w.heap.size + 1]? = some (.cells #[.slice a0 x.1.length c0, .bool x.2] 54 (0, 0)) := by
      have := heap_alloc_new W (.cells #[.slice a0 x.1.length c0, .bool x.2] 54)
      rw [hsz] at this; exact this
    have hy1 : (W.alloc (.cells #[.slice a0 x.1.length c0, .bool x.2] 54)).drew.heap[w.heap.size]? = some (.cells #[.slice none 0 0, .bool false] 54 (0, 0)) := (((Keep.refl W NoB).alloc _).drew).blk hx1 fun h => h
    clear HT1 HT2 HK HM HO
    generalize (W.alloc (.cells #[.slice a0 x.1.length c0, .bool x.2] 54)).drew = V at *
    have d0 : V.cell? ⟨w.heap.size + 1, 0, none⟩ = some (.slice a0 x.1.length c0) := by rw [cell_blk hy2]; rfl
    have d1 : V.cell? ⟨w.heap.size + 1, 1, none⟩ = some (.bool x.2) := by rw [cell_blk hy2]; rfl
    simp only [List.drop_succ_cons, List.drop_zero, List.drop_nil]
    go_wp2_with ((with_reducible refine (Known_calls _ _).mono ?_)
                 rintro e w' ⟨rfl, rfl⟩
                 rw [hk])
    have hn : x.1.length ≤ 1048576 := by have := weigh_ge x.1; have := HW.out; omega
    refine (clone_reg ((Rd.of_sl HS.out (vstr_one x.1)).keep HK2.out fun _ _ h => h) hn HX.out).mono ?_
    rintro e w3 ⟨a', c', b', rfl, s3, k3, f3⟩
    have g1 := k3.blk hy1 fun h => h
    have hsz3 : w.heap.size + 2 ≤ w3.heap.size := by have := k3.size; omega
    have hfr : ∀ g, b' = some g → w.heap.size + 2 ≤ g := fun g hg => by
      have := (f3 g hg).resolve_left (fun h => h)
      omega
    have e10 : w3.cell? ⟨w.heap.size, 0, none⟩ = some (.slice none 0 0) := by rw [cell_blk g1]; rfl
    have e11 : w3.cell? ⟨w.heap.size, 1, none⟩ = some (.bool false) := by rw [cell_blk g1]; rfl
    have z0 := free_blk g1 0
    have z1 := free_blk g1 1
    have S3 : Kp _ := ⟨s3⟩
    have K3 : Kp (Keep w NoB w3) := ⟨HK2.out.trans k3 (Fresh.refl _ _)⟩
    have HFR : Kp _ := ⟨hfr⟩
    have G1 : Kp _ := ⟨g1⟩
    clear s3 k3 f3 g1 hfr HK2 hx1 hy1 hy2
    go_wp2_with fail
    have hg := Go.Em.heap_setCell_same (Go.Em.heap_setCell_same G1.out 0 (.slice a' x.1.length c')) 1 (.bool x.2)
    refine bodyPost_ret (results_cell_row_tmp rfl _ _ w.heap.size _ _ _ _ rfl hg Tryz.underlying54 rfl (by kernel_rfl) rfl) rfl ?_
    have hne : ∀ g, b' = some g → g ≠ w.heap.size := fun g hg => by have := HFR.out g hg; omega
    refine ⟨a', c', b', rfl, S3.out.move fun g hg => ?_, (K3.out.setCell (a := ⟨w.heap.size, 0, none⟩) (.inr (Nat.le_refl _)) _).setCell (a := ⟨w.heap.size, 1, none⟩) (.inr (Nat.le_refl _)) _, fun g hg => .inr (by have := HFR.out g hg; omega)⟩
    exact (Below.heap_setCell _ ⟨w.heap.size, 1, none⟩ _ g (hne g hg)).trans (Below.heap_setCell w3 ⟨w.heap.size, 0, none⟩ _ g (hne g hg))

end Go.Proofs

/- The walk of regs.Yank, of a register whose name is small. -/
namespace Go.Proofs
open Go.RowKit Go.Em

theorem RMem.put {w : World} {rb : Nat} {f : Int → Option RegD} {G : Blocks} (h : RMem w rb f G) {x : RegD} {v : Value} (hv : ∃ H, RegV w H v x ∧ (∀ b, H b → G b ∧ b ≠ rb ∧ ∀ mb, w.cell? ⟨rb, 0, none⟩ = some (.map (some mb)) → b ≠ mb)) (k : Int) :
    ∃ mb o, w.cell? ⟨rb, 0, none⟩ = some (.map (some mb)) ∧ (Instr.mapUpdate 66 (.map (some mb)) (.int .u8 k) v).run Tryz.prog w = .ok () (setB w mb o) ∧ RMem (setB w mb o) rb (fput f k x) G ∧ Keep w G (setB w mb o) := by
  obtain ⟨H', hv, hH'⟩ := hv
  obtain ⟨mb, g, H, hne, hb, hm, hc, hrH, hmH, hG, hlt⟩ := h
  have e0 : w.cell? ⟨rb, 0, none⟩ = some (.map (some mb)) := by rw [cell_blk hb]; rfl
  obtain ⟨o, hrun, hm2⟩ := hm.put (P := Tryz.prog) Tryz.underlying66 Tryz.underlying5 k v
  have hk : Keep w (One mb) (setB w mb o) := (Keep.refl w (One mb)).setB (.inl rfl)
  have hd : Dis H (One mb) := fun b hb e => by cases e; exact hmH hb
  have hvH : RegV w H v x := by
    obtain ⟨a, n, c, b, h1, h2, h3, h4⟩ := hv
    refine ⟨a, n, c, b, h1, h2, fun g hg => ?_, h4⟩
    obtain ⟨q1, q2, q4⟩ := hH' g (h3 g hg)
    rcases (hG g).1 q1 with e | e | e
    · exact absurd e q2
    · exact absurd e (q4 mb e0)
    · exact e
  refine ⟨mb, o, e0, hrun, ⟨mb, _, H, hne, hk.blk hb fun e => hne e, hm2, fun j => ?_, hrH, hmH, hG, fun b hb => by rw [setB_size]; exact hlt b hb⟩, hk.mono fun b e => by cases e; exact (hG _).2 (.inr (.inl rfl))⟩
  unfold fput upd
  by_cases hj : j = k
  · rw [if_pos hj, if_pos hj]
    exact .inr ⟨_, _, rfl, rfl, hvH.keep hk hd⟩
  · rw [if_neg hj, if_neg hj]
    rcases hc j with h | ⟨y, u, e1, e2, h⟩
    · exact .inl h
    · exact .inr ⟨y, u, e1, e2, h.keep hk hd⟩

set_option maxRecDepth 100000 in
set_option maxHeartbeats 2000000 in
theorem yank_ok {w : World} {rb : Nat} {f : Int → Option RegD} {G : Blocks} (h : RMem w rb f G) {name : Int} (h0 : 0 ≤ name) (h1 : name < 256) (hk : knownReg name = true) (h95 : ¬ name = 95) (hsm : rng 65 90 name = false)
    {a : Option Addr} {n c : Nat} {xs : List ByteArray} {wh : Bool} (hr : Rd w 1 a n (vstr xs)) (hx : xs ≠ []) (hw : weigh xs ≤ 20000) :
    Calls Tryz.prog 83 #[.pointer (some ⟨rb, 0, none⟩), .int .u8 name, .agg #[.slice a n c, .bool wh]] w fun e w' => ∃ G', e = .returned (.int .u16 0) ∧ RMem w' rb (yankF f name (xs, wh)) G' ∧ Keep w G w' ∧ Fresh w G G' := by
  have HR : Kp _ := ⟨h⟩
  have HX : Kp _ := ⟨hx⟩
  have HW : Kp _ := ⟨hw⟩
  have hnn : xs.length = n := by have := hr.len; rw [vstr_length, Nat.mul_one] at this; exact this
  have hn : n ≤ 1048576 := by have := weigh_ge xs; omega
  have HRD : Kp (Rd (w.alloc (.cells #[.slice a n c, .bool wh] 54)) 1 a n (vstr xs)) := ⟨hr.keep ((Keep.refl w NoB).alloc _) fun _ _ h => h⟩
  have hK : Keep w NoB (w.alloc (.cells #[.slice a n c, .bool wh] 54)) := (Keep.refl w NoB).alloc _
  have hx1 : (w.alloc (.cells #[.slice a n c, .bool wh] 54)).heap[w.heap.size]? = some (.cells #[.slice a n c, .bool wh] 54 (0, 0)) := heap_alloc_new w _
  have hsz : (w.alloc (.cells #[.slice a n c, .bool wh] 54)).heap.size = w.heap.size + 1 := by simp
  have HN : Kp _ := ⟨hnn⟩
  have HGL : Kp _ := ⟨h.lt⟩
  clear h hx hw hr hnn
  go_enter Tryz.func83, Tryz.ntmps83
  go_wp2_with fail
  generalize (w.alloc (.cells #[.slice a n c, .bool wh] 54)) = W at *
  refine (clone_reg HRD.out hn HX.out).mono ?_
  rintro e w3 ⟨a', c', b', rfl, s3, k3, f3⟩
  have g1 := k3.blk hx1 fun h => h
  have e10 : w3.cell? ⟨w.heap.size, 0, none⟩ = some (.slice a n c) := by rw [cell_blk g1]; rfl
  have e11 : w3.cell? ⟨w.heap.size, 1, none⟩ = some (.bool wh) := by rw [cell_blk g1]; rfl
  have z0 := free_blk g1 0
  have z1 := free_blk g1 1
  have hfr : ∀ g, b' = some g → w.heap.size + 1 ≤ g := fun g hg => by
    have := (f3 g hg).resolve_left (fun h => h)
    omega
  have S3 : Kp _ := ⟨s3⟩
  have K3 : Kp (Keep w NoB w3) := ⟨hK.trans k3 (Fresh.refl _ _)⟩
  have HFR : Kp _ := ⟨hfr⟩
  have G1 : Kp _ := ⟨g1⟩
  clear s3 k3 f3 g1 hfr hK hx1 HRD
  go_wp2_with fail
  have hg := Go.Em.heap_setCell_same (Go.Em.heap_setCell_same G1.out 0 (.slice a' n c')) 1 (.bool wh)
  have HK4 : Kp (Keep w NoB ((w3.setCell ⟨w.heap.size, 0, none⟩ (.slice a' n c')).setCell ⟨w.heap.size, 1, none⟩ (.bool wh))) := ⟨(K3.out.setCell (a := ⟨w.heap.size, 0, none⟩) (.inr (Nat.le_refl _)) _).setCell (a := ⟨w.heap.size, 1, none⟩) (.inr (Nat.le_refl _)) _⟩
  have hne : ∀ g, b' = some g → g ≠ w.heap.size := fun g hg => by have := HFR.out g hg; omega
  have S4 : Kp (Sl ((w3.setCell ⟨w.heap.size, 0, none⟩ (.slice a' n c')).setCell ⟨w.heap.size, 1, none⟩ (.bool wh)) 9 1 a' n c' (vstr xs) b') :=
    ⟨S3.out.move fun g hg => (Below.heap_setCell _ ⟨w.heap.size, 1, none⟩ _ g (hne g hg)).trans (Below.heap_setCell w3 ⟨w.heap.size, 0, none⟩ _ g (hne g hg))⟩
  generalize ((w3.setCell ⟨w.heap.size, 0, none⟩ (.slice a' n c')).setCell ⟨w.heap.size, 1, none⟩ (.bool wh)) = V at *
  have HV : Kp _ := ⟨hg⟩
  clear e10 e11 z0 z1 S3 K3 G1 hne hg hsz
  have hbG : ∀ g, b' = some g → ¬ G g := fun g hg hG => by have := HGL.out g hG; have := HFR.out g hg; omega
  obtain ⟨mb, H, hG, hcm⟩ : ∃ mb, ∃ H : Blocks, (∀ b, G b ↔ b = rb ∨ b = mb ∨ H b) ∧ w.cell? ⟨rb, 0, none⟩ = some (.map (some mb)) := by
    obtain ⟨mb, g, H, hne, hb, hm, hc, hrH, hmH, hG, hlt⟩ := HR.out
    exact ⟨mb, H, hG, by rw [cell_blk hb]; rfl⟩
  have hRV : RMem V rb f G := HR.out.keep HK4.out fun _ _ h => h
  refine (lay_ok hRV h0 h1 hk h95 hsm S4.out hbG HX.out HW.out).mono ?_
  rintro e W2 ⟨rfl, r2, k2, c2⟩
  have hrbl : rb < V.heap.size := hRV.lt _ ((hG rb).2 (.inl rfl))
  have g2 := k2.blk HV.out (fun h => by have := HGL.out _ h; omega)
  have s2 : Sl W2 9 1 a' n c' (vstr xs) b' := S4.out.keep k2 hbG
  have cV : V.cell? ⟨rb, 0, none⟩ = some (.map (some mb)) := HK4.out.cell hcm fun h => h
  have d0 : W2.cell? ⟨w.heap.size, 0, none⟩ = some (.slice a' n c') := by rw [cell_blk g2]; rfl
  have d1 : W2.cell? ⟨w.heap.size, 1, none⟩ = some (.bool wh) := by rw [cell_blk g2]; rfl
  have c2' : W2.cell? ⟨rb, 0, none⟩ = some (.map (some mb)) := c2.trans cV
  have hfr2 : Fresh w G (Or2 G (Opt b')) := fun b hb => hb.imp id fun e => (by have := HFR.out b e; omega)
  have hbm : ∀ g, b' = some g → g ≠ mb := fun g hg e => hbG g hg ((hG g).2 (.inr (.inl e)))
  have hbr : ∀ g, b' = some g → g ≠ rb := fun g hg e => hbG g hg ((hG g).2 (.inl e))
  have hval : ∃ H, RegV W2.drew H (.agg #[.slice a' n c', .bool wh]) (xs, wh) ∧ (∀ b, H b → (Or2 G (Opt b')) b ∧ b ≠ rb ∧ ∀ mb, W2.drew.cell? ⟨rb, 0, none⟩ = some (.map (some mb)) → b ≠ mb) :=
    ⟨Opt b', ⟨a', n, c', b', rfl, s2.keep (Keep.refl W2 NoB).drew fun _ _ h => h, fun g hg => hg, HW.out, HX.out⟩, fun b hb => ⟨.inr hb, hbr b hb, fun m hm => by
      have : W2.drew.cell? ⟨rb, 0, none⟩ = some (.map (some mb)) := c2'
      rw [this] at hm; cases hm; exact hbm b hb⟩⟩
  obtain ⟨mb', o, hcm', hrun, r3, k3⟩ := (r2.keep (Keep.refl W2 NoB).drew fun _ _ h => h : RMem W2.drew _ _ _).put hval 48
  have hme : mb' = mb := by
    have : W2.drew.cell? ⟨rb, 0, none⟩ = some (.map (some mb)) := c2'
    rw [this] at hcm'; cases hcm'; rfl
  subst hme
  have HR2 : Kp _ := ⟨r2⟩
  have HR3 : Kp _ := ⟨r3⟩
  have HK2 : Kp (Keep w G W2) := ⟨(HK4.out.mono fun _ h => h.elim).trans k2 (Fresh.refl _ _)⟩
  have HK3 : Kp (Keep w G (setB W2.drew mb' o)) := ⟨((HK4.out.mono fun _ h => h.elim).trans k2 (Fresh.refl _ _)).drew.setB (.inl ((hG _).2 (.inr (.inl rfl))))⟩
  have HFR2 : Kp _ := ⟨hfr2⟩
  clear r2 r3 k2 k3 hval hfr2 hbm hbr hcm hcm' c2 cV hbG hrbl hRV s2 g2 hG HK4 S4 HV HR HX HW HN HGL HFR
  by_cases hq : name = 34
  · have hqb : (name == 34) = true := by simpa using hq
    have e3 : yankF f name (xs, wh) = fput (fput (fput f name (xs, wh)) 34 (xs, wh)) 48 (xs, wh) := by unfold yankF; rw [if_pos hq]
    have HE : Kp _ := ⟨e3⟩
    clear hq e3
    go_wp2_with fail
    refine wp_region_pl (fun W' => W'.cell? ⟨rb, 0, none⟩ = some (.map (some mb')) ∧ W'.cell? ⟨w.heap.size, 0, none⟩ = some (.slice a' n c') ∧ W'.cell? ⟨w.heap.size, 1, none⟩ = some (.bool wh))
      (.run 0 5 .done) 5 (by kernel_rfl) (by kernel_rfl) (fun _ _ d _ _ h => by cases d <;> exact h) ⟨c2', d0, d1⟩ ?_
    iterate 5
      (refine' pl_read _ rfl rfl ?_ ?_
       rotate_left
       · (intro W' hW'; (try dsimp only at hW'); obtain ⟨q0, q1, q2⟩ := hW'; go_simp; try rfl)
       simp only [Act.put, List.setIfInBounds_toArray, List.set_cons_zero, List.set_cons_succ])
    refine pl_end ?_
    simp only [List.drop_succ_cons, List.drop_zero, List.drop_nil]
    go_wp2_with fail
    go_ret
    exact ⟨_, rfl, by rw [HE.out]; exact HR3.out, HK3.out, HFR2.out⟩
  · have hqb : (name == 34) = false := by simpa using hq
    have e3 : yankF f name (xs, wh) = fput (fput f name (xs, wh)) 34 (xs, wh) := by unfold yankF; rw [if_neg hq]
    have HE : Kp _ := ⟨e3⟩
    clear hq e3
    go_wp2_with fail
    go_ret
    exact ⟨_, rfl, by rw [HE.out]; exact HR2.out, HK2.out, HFR2.out⟩

end Go.Proofs

/- The walks of work.yank, of way, and of Do at y and p. -/
namespace Go.Proofs
open Go.RowKit Go.Em

set_option maxRecDepth 100000 in
set_option maxHeartbeats 2000000 in
theorem yank_work {w : World} {wb : Nat} {c : CV} {bb rb : Nat} {d : Int} {S : BS} {F G : Blocks} {i n : Nat} {f : Int → Option RegD} (h : WMem w wb c bb rb ((i : Int) + 1) ((i : Int) + (n : Int)) d) (hB : BMem w bb S F) (hi : i + n ≤ S.lines.length) (hmost : S.lines.length ≤ 100000)
    (hR : RMem w rb f G) (hwG : ¬ G wb) (hn : 0 < n) {name : Int} (hname : regOf c.reg = name) (h0 : 0 ≤ name) (h1 : name < 256) (hk : knownReg name = true) (h95 : ¬ name = 95) (hsm : rng 65 90 name = false) (hw : weigh ((S.lines.drop i).take n) ≤ 20000) :
    Calls Tryz.prog 47 #[.pointer (some ⟨wb, 0, none⟩)] w fun e w' => ∃ G', e = .returned (.int .u16 0) ∧ RMem w' rb (yankF f name ((S.lines.drop i).take n, true)) G' ∧ Keep w G w' ∧ Fresh w G G' := by
  have c11 : w.cell? ⟨wb, 11, none⟩ = some (.pointer (some ⟨rb, 0, none⟩)) := by rw [cell_blk h]; rfl
  have HW : Kp _ := ⟨h⟩
  have HB : Kp _ := ⟨hB⟩
  have HR : Kp _ := ⟨hR⟩
  have HI : Kp _ := ⟨hi⟩
  have HM : Kp _ := ⟨hmost⟩
  have HNM : Kp _ := ⟨hname⟩
  have HWG : Kp _ := ⟨hwG⟩
  have HWT : Kp _ := ⟨hw⟩
  have HLN : Kp (((S.lines.drop i).take n).length = n) := ⟨by rw [List.length_take, List.length_drop]; omega⟩
  have HNE : Kp ((S.lines.drop i).take n ≠ []) := ⟨fun e => by have := HLN.out; rw [e] at this; simp at this; omega⟩
  have C11 : Kp _ := ⟨c11⟩
  clear h hB hR hi hmost hname hwG hw c11
  go_enter Tryz.func47, Tryz.ntmps47
  go_wp2_with fail
  refine wp_region_pl (fun W' => W'.cell? ⟨wb, 11, none⟩ = some (.pointer (some ⟨rb, 0, none⟩)))
    (.rds [0, 1, 2, 3, 4, 6] (.ac 5 (.ac 7 (.rd 8 (.ac 9 (.ac 10 .done)))))) 11 (by kernel_rfl) (by kernel_rfl) (fun _ _ d _ _ h => by cases d <;> exact h) C11.out ?_
  iterate 6
    (refine' pl_read _ rfl rfl ?_ ?_
     rotate_left
     · (intro W' hW'; (try dsimp only at hW'); go_simp; try rfl)
     simp only [Act.put, List.setIfInBounds_toArray, List.set_cons_zero, List.set_cons_succ])
  refine pl_do _ rfl ?_
  go_wp2_with ((refine (reg_work (HW.out.keep (Keep.refl w NoB).drew fun h => h)).mono ?_)
               rintro e w' ⟨rfl, rfl⟩
               rw [HNM.out])
  refine ⟨C11.out, ?_⟩
  refine pl_do _ rfl ?_
  go_wp2_with ((refine (lines_work (HW.out.keep (Keep.refl w NoB).drew fun h => h) (HB.out.keep (Keep.refl w NoB).drew fun _ _ h => h) HI.out HM.out).mono ?_)
               rintro e w1 ⟨sa, sc, sb, rfl, s1, k1, f1⟩
               have S1 : Kp _ := ⟨s1⟩
               have K1 : Kp (Keep w NoB w1) := ⟨(Keep.refl w NoB).drew.trans k1 (Fresh.refl _ _)⟩
               clear s1 k1 f1)
  refine ⟨K1.out.cell C11.out fun h => h, ?_⟩
  iterate 1
    (refine' pl_read _ rfl rfl ?_ ?_
     rotate_left
     · (intro W' hW'; (try dsimp only at hW'); go_simp; try rfl)
     simp only [Act.put, List.setIfInBounds_toArray, List.set_cons_zero, List.set_cons_succ])
  refine pl_do _ rfl ?_
  go_wp2_with fail
  refine (yank_ok (HR.out.keep K1.out fun _ _ h => h) h0 h1 hk h95 hsm (Rd.of_sl S1.out (vstr_one _)) HNE.out HWT.out).mono ?_
  rintro e w2 ⟨G', rfl, r2, k2, f2⟩
  have R2 : Kp _ := ⟨r2⟩
  have K2 : Kp (Keep w G w2) := ⟨(K1.out.mono fun _ h => h.elim).trans k2 (Fresh.refl _ _)⟩
  have F2 : Kp (Fresh w G G') := ⟨fun b hb => (f2 b hb).imp id fun e => Nat.le_trans K1.out.size e⟩
  clear r2 k2 f2
  go_wp2_with fail
  refine ⟨K2.out.cell C11.out HWG.out, ?_⟩
  refine pl_do _ rfl ?_
  go_wp2_with fail
  refine ⟨K2.out.cell C11.out HWG.out, ?_⟩
  refine pl_end ?_
  simp only [List.drop_succ_cons, List.drop_zero, List.drop_nil]
  go_wp2_with fail
  go_ret
  exact ⟨G', rfl, R2.out, K2.out, F2.out⟩

/-- A command with a name of its own and no number. -/
def cmdOf (range : Value) (name : ByteArray) (bang : Bool) (reg : Int) (dest pat rep flags : Value) (arg : ByteArray) : CV := ⟨range, name, bang, reg, -1, dest, pat, rep, flags, arg⟩

set_option maxRecDepth 100000 in
theorem way_y {w : World} {wb : Nat} {c : CV} {bb rb : Nat} {f t d : Int} (h : WMem w wb c bb rb f t d) (hn : c.name = ⟨#[121]⟩) :
    Calls Tryz.prog 30 #[.pointer (some ⟨wb, 0, none⟩)] w fun e w' => e = .returned (.func (.func 47) #[.pointer (some ⟨wb, 0, none⟩)] #[]) ∧ w = w' := by
  have c1 : w.cell? ⟨wb, 1, none⟩ = some (.string ⟨#[121]⟩) := by rw [cell_blk h]; show some (Value.string c.name) = _; rw [hn]
  clear h hn
  go_enter Tryz.func30, Tryz.ntmps30
  go_wp2_with fail
  go_ret
  exact ⟨rfl, rfl⟩

end Go.Proofs

/- The walks of edit.Do at y and at p. -/
namespace Go.Proofs
open Go.RowKit Go.Em

set_option maxRecDepth 100000 in
set_option maxHeartbeats 2000000 in
theorem do_y {w : World} {bb rb : Nat} {S : BS} {F G : Blocks} {i n : Nat} {fr tt d : Int} (hfr : fr = (i : Int) + 1) (hto : tt = (i : Int) + (n : Int)) {f : Int → Option RegD} {reg : Int} {range dest : Value} {arg pat rep flags : ByteArray} {bang : Bool} (hB : BMem w bb S F) (hi : i + n ≤ S.lines.length) (hmost : S.lines.length ≤ 100000)
    (hR : RMem w rb f G) (hn : 0 < n) {name : Int} (hname : regOf reg = name) (h0 : 0 ≤ name) (h1 : name < 256) (hk : knownReg name = true) (h95 : ¬ name = 95) (hsm : rng 65 90 name = false) (hw : weigh ((S.lines.drop i).take n) ≤ 20000) :
    Calls Tryz.prog 10 #[.pointer (some ⟨bb, 0, none⟩), .pointer (some ⟨rb, 0, none⟩), .agg #[range, .string ⟨#[121]⟩, .bool bang, .int .u8 reg, .int .i64 (-1), dest, .string pat, .string rep, .string flags, .string arg], .int .i64 fr, .int .i64 tt, .int .i64 d] w fun e w' =>
      ∃ G', e = .returned (.tuple #[.slice none 0 0, .int .u16 0]) ∧ RMem w' rb (yankF f name ((S.lines.drop i).take n, true)) G' ∧ Keep w G w' ∧ Fresh w G G' := by
  obtain ⟨tb, kb, oa, on, oc, q1, c0, q4, q6, q7, qf, ⟨FT, hT, hTd, -⟩, -⟩ := hB.cells
  have hbb : bb < w.heap.size := hB.lt _ hB.has
  have HT : Kp _ := ⟨hT⟩
  have HB : Kp _ := ⟨hB⟩
  have HR : Kp _ := ⟨hR⟩
  have HI : Kp _ := ⟨hi⟩
  have HM : Kp _ := ⟨hmost⟩
  have HNM : Kp _ := ⟨hname⟩
  have HWT : Kp _ := ⟨hw⟩
  have hi1 : 1 ≤ fr := by omega
  have hi2 : fr ≤ tt := by omega
  have hi3 : tt ≤ (S.lines.length : Int) := by omega
  have hi5 : ¬ (S.lines.length : Int) < tt := by omega
  have HFR : Kp _ := ⟨hfr⟩
  have HTO : Kp _ := ⟨hto⟩
  have HN : Kp _ := ⟨hn⟩
  clear q1 q4 q6 q7 qf hT hTd hB hR hi hmost hname hw hfr hto hn
  go_enter Tryz.func10, Tryz.ntmps10
  go_wp2_with fail
  refine (len_text (HT.out.keep ((Keep.refl w NoB).alloc _) fun _ _ h => h)).mono ?_
  rintro e w' ⟨rfl, q, rfl⟩
  go_wp2_with fail
  have hsz : ((w.alloc (.cells #[range, .string ⟨#[121]⟩, .bool bang, .int .u8 reg, .int .i64 (-1), dest, .string pat, .string rep, .string flags, .string arg] 36)).drewN q).heap.size = w.heap.size + 1 := by simp
  have hK0 : Keep w NoB ((w.alloc (.cells #[range, .string ⟨#[121]⟩, .bool bang, .int .u8 reg, .int .i64 (-1), dest, .string pat, .string rep, .string flags, .string arg] 36)).drewN q) := ((Keep.refl w NoB).alloc _).drewN q
  generalize (w.alloc (.cells #[range, .string ⟨#[121]⟩, .bool bang, .int .u8 reg, .int .i64 (-1), dest, .string pat, .string rep, .string flags, .string arg] 36)).drewN q = W0 at *
  have hK1 := hK0.alloc (.cells (WCells ⟨range, ⟨#[121]⟩, bang, reg, -1, dest, .string pat, .string rep, .string flags, arg⟩ bb rb fr tt d) 72)
  have hW : WMem (W0.alloc (.cells (WCells ⟨range, ⟨#[121]⟩, bang, reg, -1, dest, .string pat, .string rep, .string flags, arg⟩ bb rb fr tt d) 72)) (w.heap.size + 1) ⟨range, ⟨#[121]⟩, bang, reg, -1, dest, .string pat, .string rep, .string flags, arg⟩ bb rb ((i : Int) + 1) ((i : Int) + (n : Int)) d := by
    have := heap_alloc_new W0 (.cells (WCells ⟨range, ⟨#[121]⟩, bang, reg, -1, dest, .string pat, .string rep, .string flags, arg⟩ bb rb fr tt d) 72)
    rw [hsz] at this
    rw [← HFR.out, ← HTO.out]
    exact this
  unfold WCells at hK1 hW
  generalize (W0.alloc _) = V at *
  have HW : Kp _ := ⟨hW⟩
  have HK1 : Kp _ := ⟨hK1⟩
  have HBG : Kp _ := ⟨HR.out.lt⟩
  clear hW hK1 hK0 hsz
  refine (way_y HW.out rfl).mono ?_
  rintro e w' ⟨rfl, rfl⟩
  go_wp2_with fail
  refine (yank_work HW.out (HB.out.keep HK1.out fun _ _ h => h) HI.out HM.out (HR.out.keep HK1.out fun _ _ h => h) (fun h => by have := HBG.out _ h; omega) HN.out HNM.out h0 h1 hk h95 hsm HWT.out).mono ?_
  rintro e w2 ⟨G', rfl, r2, k2, f2⟩
  have R2 : Kp _ := ⟨r2⟩
  have K2 : Kp (Keep w G w2) := ⟨(HK1.out.mono fun _ h => h.elim).trans k2 (Fresh.refl _ _)⟩
  have F2 : Kp (Fresh w G G') := ⟨fun b hb => (f2 b hb).imp id fun e => Nat.le_trans HK1.out.size e⟩
  clear r2 k2 f2
  go_wp2_with fail
  go_ret2
  exact ⟨G', rfl, R2.out, K2.out, F2.out⟩

set_option maxRecDepth 100000 in
set_option maxHeartbeats 2000000 in
theorem do_p {w : World} {bb rb : Nat} {S : BS} {F : Blocks} {i n : Nat} {fr tt d : Int} (hfr : fr = (i : Int) + 1) (hto : tt = (i : Int) + (n : Int)) {reg : Int} {range dest : Value} {arg pat rep flags : ByteArray} {bang : Bool} (hB : BMem w bb S F) (hi : i + n ≤ S.lines.length) (hmost : S.lines.length ≤ 100000)
    (hn : 0 < n) :
    Calls Tryz.prog 10 #[.pointer (some ⟨bb, 0, none⟩), .pointer (some ⟨rb, 0, none⟩), .agg #[range, .string ⟨#[112]⟩, .bool bang, .int .u8 reg, .int .i64 (-1), dest, .string pat, .string rep, .string flags, .string arg], .int .i64 fr, .int .i64 tt, .int .i64 d] w fun e w' =>
      ∃ a c b, e = .returned (.tuple #[.slice a n c, .int .u16 0]) ∧ Sl w' 9 1 a n c (vstr ((S.lines.drop i).take n)) b ∧ BMem w' bb { S with at_ := tt } F ∧ Keep w F w' ∧ ∀ g, b = some g → w.heap.size ≤ g := by
  obtain ⟨tb, kb, oa, on, oc, q1, c0, q4, q6, q7, qf, ⟨FT, hT, hTd, -⟩, -⟩ := hB.cells
  have hbb : bb < w.heap.size := hB.lt _ hB.has
  have HT : Kp _ := ⟨hT⟩
  have HB : Kp _ := ⟨hB⟩
  have HI : Kp _ := ⟨hi⟩
  have HM : Kp _ := ⟨hmost⟩
  have hi1 : 1 ≤ fr := by omega
  have hi2 : fr ≤ tt := by omega
  have hi3 : tt ≤ (S.lines.length : Int) := by omega
  have hi5 : ¬ (S.lines.length : Int) < tt := by omega
  have HFR : Kp _ := ⟨hfr⟩
  have HTO : Kp _ := ⟨hto⟩
  have HN : Kp _ := ⟨hn⟩
  clear q1 q4 q6 q7 qf hT hTd hB hi hmost hfr hto hn
  go_enter Tryz.func10, Tryz.ntmps10
  go_wp2_with fail
  refine (len_text (HT.out.keep ((Keep.refl w NoB).alloc _) fun _ _ h => h)).mono ?_
  rintro e w' ⟨rfl, q, rfl⟩
  go_wp2_with fail
  have hsz : ((w.alloc (.cells #[range, .string ⟨#[112]⟩, .bool bang, .int .u8 reg, .int .i64 (-1), dest, .string pat, .string rep, .string flags, .string arg] 36)).drewN q).heap.size = w.heap.size + 1 := by simp
  have hK0 : Keep w NoB ((w.alloc (.cells #[range, .string ⟨#[112]⟩, .bool bang, .int .u8 reg, .int .i64 (-1), dest, .string pat, .string rep, .string flags, .string arg] 36)).drewN q) := ((Keep.refl w NoB).alloc _).drewN q
  generalize (w.alloc (.cells #[range, .string ⟨#[112]⟩, .bool bang, .int .u8 reg, .int .i64 (-1), dest, .string pat, .string rep, .string flags, .string arg] 36)).drewN q = W0 at *
  have hK1 := hK0.alloc (.cells (WCells ⟨range, ⟨#[112]⟩, bang, reg, -1, dest, .string pat, .string rep, .string flags, arg⟩ bb rb fr tt d) 72)
  have hW : WMem (W0.alloc (.cells (WCells ⟨range, ⟨#[112]⟩, bang, reg, -1, dest, .string pat, .string rep, .string flags, arg⟩ bb rb fr tt d) 72)) (w.heap.size + 1) ⟨range, ⟨#[112]⟩, bang, reg, -1, dest, .string pat, .string rep, .string flags, arg⟩ bb rb ((i : Int) + 1) ((i : Int) + (n : Int)) d := by
    have := heap_alloc_new W0 (.cells (WCells ⟨range, ⟨#[112]⟩, bang, reg, -1, dest, .string pat, .string rep, .string flags, arg⟩ bb rb fr tt d) 72)
    rw [hsz] at this
    rw [← HFR.out, ← HTO.out]
    exact this
  unfold WCells at hK1 hW
  generalize (W0.alloc _) = V at *
  have HW : Kp _ := ⟨hW⟩
  have HK1 : Kp _ := ⟨hK1⟩
  have HBG : Kp _ := ⟨HB.out.lt⟩
  clear hW hK1 hK0 hsz
  have hmm : min (max tt 1) (S.lines.length : Int) = tt := by omega
  have HMM : Kp _ := ⟨hmm⟩
  clear hmm
  refine (put_buf (HB.out.keep HK1.out fun _ _ h => h) tt).mono ?_
  rintro e w2 ⟨rfl, b2, k2⟩
  rw [HMM.out] at b2
  have B2 : Kp _ := ⟨b2⟩
  have K2 : Kp (Keep w F w2) := ⟨(HK1.out.mono fun _ h => h.elim).trans k2 (Fresh.refl _ _)⟩
  have HW2 : Kp _ := ⟨HW.out.keep k2 fun h => by have := HBG.out _ h; omega⟩
  have HS2 : Kp (w.heap.size ≤ w2.heap.size) := ⟨Nat.le_trans HK1.out.size k2.size⟩
  clear b2 k2
  go_wp2_with fail
  refine (lines_work HW2.out B2.out HI.out HM.out).mono ?_
  rintro e w3 ⟨sa, sc, sb, rfl, s3, k3, f3⟩
  have S3 : Kp _ := ⟨s3⟩
  have B3 : Kp _ := ⟨B2.out.keep k3 fun _ _ h => h⟩
  have K3 : Kp (Keep w F w3) := ⟨K2.out.trans (k3.mono (G := F) fun _ h => h.elim) (Fresh.refl _ _)⟩
  have F3 : Kp (∀ g, sb = some g → w.heap.size ≤ g) := ⟨fun g hg => Nat.le_trans HS2.out ((f3 g hg).resolve_left fun h => h)⟩
  clear s3 k3 f3
  go_wp2_with fail
  go_ret2
  exact ⟨_, _, _, rfl, S3.out, B3.out, K3.out, F3.out⟩


end Go.Proofs

/- The library's functions on strings; the walk of edit.Join. -/
namespace Go.Proofs
open Go.RowKit Go.Em Go.Shelf

def blankSet : List UInt8 := [32, 9]
def trimL (s : ByteArray) : ByteArray := ⟨(Lib.trimLeftS s.data.toList blankSet).toArray⟩
def trimR (s : ByteArray) : ByteArray := ⟨(Lib.trimRightS s.data.toList blankSet).toArray⟩
theorem ascii_of (l : List UInt8) (h : l.all (fun b => decide (b.toNat < 128)) = true) : ∀ (j : Nat) (b : UInt8), l[j]? = some b → b.toNat < 128 := fun j b hj => by
  have := List.all_eq_true.1 h b (List.mem_of_getElem? hj)
  simpa using this
theorem trimL_calls (s : ByteArray) (w : World) : Calls Tryz.prog 36 #[.string s, .string ⟨#[32, 9]⟩] w fun e w' => e = .returned (.string (trimL s)) ∧ Below w.heap.size w w' :=
  Any.strings_TrimLeft_laid Tryz.l161 (by kernel_rfl) s ⟨#[32, 9]⟩ w (by decide) (ascii_of _ (by decide))
theorem trimR_calls (s : ByteArray) (w : World) (hs : s.size ≤ 9223372036854775807) : Calls Tryz.prog 37 #[.string s, .string ⟨#[32, 9]⟩] w fun e w' => e = .returned (.string (trimR s)) ∧ Below w.heap.size w w' :=
  Any.strings_TrimRight_laid Tryz.l162 (by kernel_rfl) s ⟨#[32, 9]⟩ w hs (by decide) (ascii_of _ (by decide))
def trimS (s : ByteArray) : ByteArray := ⟨(Lib.trimLeftS s.data.toList [32]).toArray⟩
theorem trimS_calls (s : ByteArray) (w : World) : Calls Tryz.prog 36 #[.string s, .string ⟨#[32]⟩] w fun e w' => e = .returned (.string (trimS s)) ∧ Below w.heap.size w w' :=
  Any.strings_TrimLeft_laid Tryz.l161 (by kernel_rfl) s ⟨#[32]⟩ w (by decide) (ascii_of _ (by decide))

theorem trimL_size (s : ByteArray) : (trimL s).size ≤ s.size := by
  show (Lib.trimLeftS s.data.toList blankSet).toArray.size ≤ s.data.size
  unfold Lib.trimLeftS
  have := (List.dropWhile_sublist (fun c => blankSet.contains c) (l := s.data.toList)).length_le
  simpa using this
theorem size_pos_of {s : ByteArray} (h : s.toList.isEmpty = false) : 0 < s.size := by
  rw [ByteArray.toList_eq] at h
  show 0 < s.data.size
  cases hs : s.data.toList with
  | nil => rw [hs] at h; cases h
  | cons x l => rw [← Array.length_toList, hs]; simp

/-- Is its first byte a parenthesis? -/
def paren (s : ByteArray) : Bool := if h : 0 < s.size then ((s[0].toNat : Int) == 41) else false
theorem paren_eq {s : ByteArray} (h : 0 < s.size) : paren s = ((s[0].toNat : Int) == 41) := dif_pos h
/-- Two lines as one. -/
def joinP (a b : ByteArray) (bold : Bool) : ByteArray :=
  if bold then a ++ b else
  if (trimL b).toList.isEmpty then a else
  if a.toList.isEmpty || !((trimR a).toList == a.toList) || paren (trimL b) then a ++ trimL b else a ++ ⟨#[32]⟩ ++ trimL b

set_option maxRecDepth 100000 in
set_option maxHeartbeats 1000000 in
theorem join_calls (a b : ByteArray) (bold : Bool) (w : World) (ha : a.size ≤ 1000000) (hb : b.size ≤ 1000000) :
    Calls Tryz.prog 19 #[.string a, .string b, .bool bold] w fun e w' => e = .returned (.string (joinP a b bold)) ∧ Below w.heap.size w w' := by
  cases bold with
  | true =>
    go_enter Tryz.func19, Tryz.ntmps19
    go_wp2_with fail
    go_ret
    exact ⟨rfl, Below.refl _ _⟩
  | false =>
    have hts := trimL_size b
    have htl : (trimL b).size ≤ 1000000 := Nat.le_trans hts hb
    clear hts
    cases e1 : (trimL b).toList.isEmpty with
    | true =>
      have HJ : Kp (joinP a b false = a) := ⟨by unfold joinP; simp [e1]⟩
      go_enter Tryz.func19, Tryz.ntmps19
      go_wp2_with fail
      refine (trimL_calls b w).mono ?_
      rintro e w1 ⟨rfl, hb1⟩
      have HB1 : Kp _ := ⟨hb1⟩
      clear hb1
      go_wp2_with fail
      go_ret
      exact ⟨by rw [HJ.out]; rfl, HB1.out⟩
    | false =>
      have hpos := size_pos_of e1
      cases e2 : a.toList.isEmpty with
      | true =>
        have HJ : Kp (joinP a b false = a ++ trimL b) := ⟨by unfold joinP; simp [e1, e2]⟩
        go_enter Tryz.func19, Tryz.ntmps19
        go_wp2_with fail
        refine (trimL_calls b w).mono ?_
        rintro e w1 ⟨rfl, hb1⟩
        have HB1 : Kp _ := ⟨hb1⟩
        clear hb1
        go_wp2_with fail
        go_ret
        exact ⟨by rw [HJ.out]; rfl, HB1.out⟩
      | false =>
        cases e3 : (trimR a).toList == a.toList with
        | false =>
          have HJ : Kp (joinP a b false = a ++ trimL b) := ⟨by unfold joinP; simp [e1, e2, e3]⟩
          go_enter Tryz.func19, Tryz.ntmps19
          go_wp2_with fail
          refine (trimL_calls b w).mono ?_
          rintro e w1 ⟨rfl, hb1⟩
          have HB1 : Kp _ := ⟨hb1⟩
          clear hb1
          go_wp2_with fail
          refine (trimR_calls a w1 (by omega)).mono ?_
          rintro e w2 ⟨rfl, hb2⟩
          have HB2 : Kp _ := ⟨HB1.out.trans (hb2.mono HB1.out.size)⟩
          clear hb2
          go_wp2_with fail
          go_ret
          exact ⟨by rw [HJ.out]; rfl, HB2.out⟩
        | true =>
          go_enter Tryz.func19, Tryz.ntmps19
          go_wp2_with fail
          refine (trimL_calls b w).mono ?_
          rintro e w1 ⟨rfl, hb1⟩
          have HB1 : Kp _ := ⟨hb1⟩
          clear hb1
          go_wp2_with fail
          refine (trimR_calls a w1 (by omega)).mono ?_
          rintro e w2 ⟨rfl, hb2⟩
          have HB2 : Kp _ := ⟨HB1.out.trans (hb2.mono HB1.out.size)⟩
          clear hb2
          go_wp2_with fail
          · rename_i hq
            have hp : paren (trimL b) = true := (paren_eq hpos).trans hq
            have HJ : Kp (joinP a b false = a ++ trimL b) := ⟨by unfold joinP; simp [e1, e2, e3, hp]⟩
            go_ret
            exact ⟨by rw [HJ.out]; rfl, HB2.out⟩
          · rename_i hq
            have hp : paren (trimL b) = false := (paren_eq hpos).trans hq
            have HJ : Kp (joinP a b false = a ++ ⟨#[32]⟩ ++ trimL b) := ⟨by unfold joinP; simp [e1, e2, e3, hp]⟩
            go_ret
            exact ⟨by rw [HJ.out]; rfl, HB2.out⟩

end Go.Proofs

/- The walks of edit.back, and of Shift and known at the chapter's examples. -/
namespace Go.Proofs
open Go.RowKit Go.Em Go.Shelf

theorem cutP_calls (s : ByteArray) (w : World) : Calls Tryz.prog 72 #[.string s, .string ⟨#[9]⟩] w fun e w' => e = .returned (.tuple #[.string ⟨(Lib.trimPrefix s.data.toList [9]).toArray⟩, .bool (Lib.hasPrefix s.data.toList [9])]) ∧ w = w' :=
  (Tryz.strings_CutPrefix s ⟨#[9]⟩ w).mono fun _ _ h => ⟨h.1, h.2.symm⟩
theorem rep_calls (s : ByteArray) (c : Nat) (w : World) (hc : c ≤ 200) (hs : s.size ≤ 1000000) : Calls Tryz.prog 38 #[.string s, .int .i64 (c : Int)] w fun e w' => e = .returned (.string ⟨(Lib.repeatL s.data.toList c).toArray⟩) ∧ Below w.heap.size w w' :=
  Tryz.strings_Repeat s c w (by omega) (Nat.le_trans (Nat.mul_le_mul hs hc) (by omega))
theorem trimS_size (s : ByteArray) : (trimS s).size ≤ s.size := by
  show (Lib.trimLeftS s.data.toList [32]).toArray.size ≤ s.data.size
  unfold Lib.trimLeftS
  have := (List.dropWhile_sublist (fun c => List.contains [32] c) (l := s.data.toList)).length_le
  simpa using this
/-- A line without a shift. -/
def backP (s : ByteArray) : ByteArray := if Lib.hasPrefix s.data.toList [9] then ⟨(Lib.trimPrefix s.data.toList [9]).toArray⟩ else s.extract (min (s.size - (trimS s).size) 8) s.size

set_option maxRecDepth 100000 in
set_option maxHeartbeats 1000000 in
theorem back_calls (s : ByteArray) (w : World) (hs : s.size ≤ 1000000) : Calls Tryz.prog 39 #[.string s] w fun e w' => e = .returned (.string (backP s)) ∧ Below w.heap.size w w' := by
  cases hp : Lib.hasPrefix s.data.toList [9] with
  | true =>
    have HJ : Kp (backP s = ⟨(Lib.trimPrefix s.data.toList [9]).toArray⟩) := ⟨by unfold backP; rw [if_pos hp]⟩
    go_enter Tryz.func39, Tryz.ntmps39
    go_wp2_with fail
    refine (cutP_calls s w).mono ?_
    rintro e w1 ⟨rfl, rfl⟩
    rw [hp]
    go_wp2_with fail
    go_ret
    exact ⟨by rw [HJ.out]; rfl, Below.refl _ _⟩
  | false =>
    have HJ : Kp (backP s = s.extract (min (s.size - (trimS s).size) 8) s.size) := ⟨by unfold backP; rw [hp]; rfl⟩
    have hts := trimS_size s
    have htl : (trimS s).size ≤ 1000000 := Nat.le_trans hts hs
    go_enter Tryz.func39, Tryz.ntmps39
    go_wp2_with fail
    refine (cutP_calls s w).mono ?_
    rintro e w1 ⟨rfl, rfl⟩
    rw [hp]
    go_wp2_with fail
    refine (trimS_calls s w).mono ?_
    rintro e w1 ⟨rfl, hb1⟩
    have HB1 : Kp _ := ⟨hb1⟩
    clear hb1
    go_wp2_with fail
    go_ret
    exact ⟨by rw [HJ.out, show min (s.size - (trimS s).size) 8 = (min ((s.size : Int) - ((trimS s).size : Int)) 8).toNat by omega]; rfl, HB1.out⟩

def iterB : Nat → ByteArray → ByteArray
  | 0, s => s
  | n + 1, s => backP (iterB n s)
theorem backP_size (s : ByteArray) : (backP s).size ≤ s.size := by
  unfold backP
  split
  · show (Lib.trimPrefix s.data.toList [9]).toArray.size ≤ s.data.size
    have : (Lib.trimPrefix s.data.toList [9]).length ≤ s.data.toList.length := by
      unfold Lib.trimPrefix
      split <;> simp
    simpa using this
  · rw [ByteArray.size_extract]; omega
theorem iterB_size (s : ByteArray) : ∀ n, (iterB n s).size ≤ s.size
  | 0 => Nat.le_refl _
  | n + 1 => Nat.le_trans (backP_size _) (iterB_size s n)

set_option maxRecDepth 100000 in
set_option maxHeartbeats 1000000 in
/-- Shift to the left. -/
theorem shiftL_calls (s : ByteArray) (n : Nat) (w : World) (hs : s.size ≤ 1000000) (he : s.toList.isEmpty = false) (hn : n ≤ 200) :
    Calls Tryz.prog 20 #[.string s, .int .i64 (n : Int), .bool true] w fun e w' => e = .returned (.string (iterB n s)) ∧ Below w.heap.size w w' := by
  have hmm : min (n : Int) 200 = (n : Int) := by omega
  have HMM : Kp _ := ⟨hmm⟩
  clear hmm
  go_enter Tryz.func20, Tryz.ntmps20
  go_wp2_with fail
  rw [HMM.out]
  go_loopw [0, 22] (fun v j wr => ∃ k : Nat, k ≤ n ∧ j = .int .i64 (k : Int) ∧ v = .string (iterB k s) ∧ Kp (Below w.heap.size w wr)) (fun _ j _ => n - (intOf j).toNat)
  case atStart => exact ⟨0, Nat.zero_le _, rfl, rfl, ⟨Below.refl _ _⟩⟩
  case round =>
    obtain ⟨k, hk, rfl, rfl, HB⟩ := hrel
    by_cases hlt : k < n
    · have hsz : (iterB k s).size ≤ 1000000 := Nat.le_trans (iterB_size s k) hs
      go_wp2_with fail
      refine (back_calls (iterB k s) wr hsz).mono ?_
      rintro e w1 ⟨rfl, hb1⟩
      have HB1 : Kp (Below w.heap.size w w1) := ⟨HB.out.trans (hb1.mono HB.out.size)⟩
      clear hb1
      go_wp2_with fail
      go_roundw
      case rel => exact ⟨k + 1, by omega, by go_num, rfl, HB1⟩
      case measure => simp [intOf]; omega
    · have hke : k = n := by omega
      subst hke
      go_wp2_with fail
      go_ret
      exact ⟨rfl, HB.out⟩

set_option maxRecDepth 100000 in
set_option maxHeartbeats 1000000 in
/-- Shift to the right. -/
theorem shiftR_calls (s : ByteArray) (n : Nat) (w : World) (hs : s.size ≤ 1000000) (he : s.toList.isEmpty = false) (hn : n ≤ 200) :
    Calls Tryz.prog 20 #[.string s, .int .i64 (n : Int), .bool false] w fun e w' => e = .returned (.string (⟨(Lib.repeatL [9] n).toArray⟩ ++ s)) ∧ Below w.heap.size w w' := by
  have hmm : min (n : Int) 200 = (n : Int) := by omega
  have HMM : Kp _ := ⟨hmm⟩
  clear hmm
  go_enter Tryz.func20, Tryz.ntmps20
  go_wp2_with fail
  rw [HMM.out]
  refine (rep_calls ⟨#[9]⟩ n w hn (by decide)).mono ?_
  rintro e w1 ⟨rfl, hb1⟩
  have HB1 : Kp _ := ⟨hb1⟩
  clear hb1
  have hrs : (⟨(Lib.repeatL [9] n).toArray⟩ : ByteArray).size ≤ 1000000 := by
    show (Lib.repeatL [9] n).toArray.size ≤ 1000000
    have := Lib.repeatL_length [9] n
    simp only [List.size_toArray]
    rw [this]
    simp
    omega
  go_wp2_with fail
  go_ret
  exact ⟨rfl, HB1.out⟩

set_option maxRecDepth 100000 in
set_option maxHeartbeats 1000000 in
/-- The chapter's examples. -/
theorem known_calls (w : World) : Calls Tryz.prog 7 #[] w fun e w' => e = .returned (.bool true) ∧ Below w.heap.size w w' := by
  have j1 : joinP ⟨#[97]⟩ ⟨#[32, 32, 98]⟩ false = ⟨#[97, 32, 98]⟩ := by
    simp only [joinP, ByteArray.toList_eq]
    decide
  have j2 : joinP ⟨#[97]⟩ ⟨#[32, 32, 98]⟩ true = ⟨#[97, 32, 32, 98]⟩ := by decide
  have j3 : (⟨(Lib.repeatL [9] 2).toArray⟩ ++ ⟨#[120]⟩ : ByteArray) = ⟨#[9, 9, 120]⟩ := by decide
  have j4 : iterB 9 ⟨#[9, 9, 120]⟩ = ⟨#[120]⟩ := by decide
  go_enter Tryz.func7, Tryz.ntmps7
  have J1 : Kp _ := ⟨j1⟩
  have J2 : Kp _ := ⟨j2⟩
  have J3 : Kp _ := ⟨j3⟩
  have J4 : Kp _ := ⟨j4⟩
  clear j1 j2 j3 j4
  go_wp2_with fail
  refine (join_calls _ _ false w (by decide) (by decide)).mono ?_
  rintro e w1 ⟨rfl, b1⟩
  rw [J1.out]
  have B1 : Kp _ := ⟨b1⟩
  clear b1
  go_wp2_with fail
  refine (join_calls _ _ true w1 (by decide) (by decide)).mono ?_
  rintro e w2 ⟨rfl, b2⟩
  rw [J2.out]
  have B2 : Kp (Below w.heap.size w w2) := ⟨B1.out.trans (b2.mono B1.out.size)⟩
  clear b2
  go_wp2_with fail
  refine (shiftR_calls ⟨#[120]⟩ 2 w2 (by decide) (by rw [ByteArray.toList_eq]; rfl) (by omega)).mono ?_
  rintro e w3 ⟨rfl, b3⟩
  rw [J3.out]
  have B3 : Kp (Below w.heap.size w w3) := ⟨B2.out.trans (b3.mono B2.out.size)⟩
  clear b3
  go_wp2_with fail
  refine (shiftL_calls ⟨#[9, 9, 120]⟩ 9 w3 (by decide) (by rw [ByteArray.toList_eq]; rfl) (by omega)).mono ?_
  rintro e w4 ⟨rfl, b4⟩
  rw [J4.out]
  have B4 : Kp (Below w.heap.size w w4) := ⟨B3.out.trans (b4.mono B3.out.size)⟩
  clear b4
  go_wp2_with fail
  go_ret
  exact ⟨rfl, B4.out⟩

end Go.Proofs

/- The walk of the reference's Same for registers. -/
namespace Go.Proofs
open Go.RowKit Go.Em

/-- Are two registers alike? -/
def regSame (xs ys : List ByteArray) (p q : Bool) : Bool := decide (xs = ys ∧ p = q)
theorem regSame_self (xs : List ByteArray) (p : Bool) : regSame xs xs p p = true := by simp [regSame]

set_option maxRecDepth 100000 in
set_option maxHeartbeats 2000000 in
theorem same_reg {w : World} {a a2 : Option Addr} {n c m c2 : Nat} {xs ys : List ByteArray} {p q : Bool} (h1 : Rd w 1 a n (vstr xs)) (h2 : Rd w 1 a2 m (vstr ys)) (hn : n < 9223372036854775807) :
    Calls Tryz.prog 18 #[.agg #[.slice a n c, .bool p], .agg #[.slice a2 m c2, .bool q]] w fun e w' => e = .returned (.bool (regSame xs ys p q)) ∧ Keep w NoB w' := by
  have hxl : xs.length = n := by have := h1.len; rw [vstr_length, Nat.mul_one] at this; exact this
  have hyl : ys.length = m := by have := h2.len; rw [vstr_length, Nat.mul_one] at this; exact this
  have HX : Kp _ := ⟨hxl⟩
  have HY : Kp _ := ⟨hyl⟩
  have hK : Keep w NoB ((w.alloc (.cells #[.slice a n c, .bool p] 54)).alloc (.cells #[.slice a2 m c2, .bool q] 54)) := ((Keep.refl w NoB).alloc _).alloc _
  have H1 : Kp _ := ⟨h1.keep hK fun _ _ h => h⟩
  have H2 : Kp _ := ⟨h2.keep hK fun _ _ h => h⟩
  have HK : Kp _ := ⟨hK⟩
  have hx := heap_two w (.cells #[.slice a n c, .bool p] 54) (.cells #[.slice a2 m c2, .bool q] 54)
  have hx2 : ((w.alloc (.cells #[.slice a n c, .bool p] 54)).alloc (.cells #[.slice a2 m c2, .bool q] 54)).heap[w.heap.size + 1]? = _ := hx.1
  have hx1 : ((w.alloc (.cells #[.slice a n c, .bool p] 54)).alloc (.cells #[.slice a2 m c2, .bool q] 54)).heap[w.heap.size]? = _ := hx.2
  have HX1 : Kp _ := ⟨hx1⟩
  have HX2 : Kp _ := ⟨hx2⟩
  clear hxl hyl h1 h2 hK hx hx1 hx2
  by_cases hnm : n = m
  case neg =>
    have hne : xs ≠ ys := fun e => hnm (by rw [← HX.out, ← HY.out, e])
    have hnm' : ¬ ((n : Int) = (m : Int)) := by omega
    have HE : Kp (regSame xs ys p q = false) := ⟨by simp [regSame, hne]⟩
    clear hne
    go_enter Tryz.func18, Tryz.ntmps18
    go_wp2_with fail
    go_ret
    exact ⟨by rw [HE.out]; rfl, HK.out⟩
  subst hnm
  by_cases hpq : p = q
  case neg =>
    have HE : Kp (regSame xs ys p q = false) := ⟨by simp [regSame, hpq]⟩
    have hbq : (!(p == q)) = true := by simp [hpq]
    clear hpq
    go_enter Tryz.func18, Tryz.ntmps18
    go_wp2_with fail
    go_ret
    exact ⟨by rw [HE.out]; rfl, HK.out⟩
  subst hpq
  go_enter Tryz.func18, Tryz.ntmps18
  go_wp2_with fail
  generalize ((w.alloc (.cells #[.slice a n c, .bool p] 54)).alloc (.cells #[.slice a2 n c2, .bool p] 54)) = W at *
  have c0 : W.cell? ⟨w.heap.size, 0, none⟩ = some (.slice a n c) := by rw [cell_blk HX1.out]; rfl
  have c1 : W.cell? ⟨w.heap.size + 1, 0, none⟩ = some (.slice a2 n c2) := by rw [cell_blk HX2.out]; rfl
  go_loopw [5] (fun j wr => ∃ k q : Nat, k ≤ n ∧ j = .int .i64 (k : Int) ∧ wr = W.drewN q ∧ Kp (xs.take k = ys.take k)) (fun j _ => n - (intOf j).toNat)
  case atStart => exact ⟨0, 0, Nat.zero_le _, rfl, rfl, ⟨rfl⟩⟩
  case round =>
    obtain ⟨k, q, hk, rfl, rfl, HT⟩ := hrel
    by_cases hlt : k < n
    · obtain ⟨x, hx⟩ : ∃ x, xs[k]? = some x := ⟨_, List.getElem?_eq_getElem (by have := HX.out; omega)⟩
      obtain ⟨y, hy⟩ : ∃ y, ys[k]? = some y := ⟨_, List.getElem?_eq_getElem (by have := HY.out; omega)⟩
      obtain ⟨ad, hae, hc1⟩ := H1.out.cells k _ (vstr_get hx)
      obtain ⟨ad2, hae2, hc2⟩ := H2.out.cells k _ (vstr_get hy)
      have HXG : Kp _ := ⟨hx⟩
      have HYG : Kp _ := ⟨hy⟩
      have hki : (k : Int) < (n : Int) := by omega
      subst hae
      subst hae2
      clear hx hy
      by_cases hxy : x = y
      · have hb : (x.toList == y.toList) = true := by rw [hxy]; simp
        have HXY : Kp _ := ⟨hxy⟩
        clear hxy
        go_wp2_with fail
        go_quiet (fail)
        go_wp2_with fail
        go_roundw
        case rel => exact ⟨k + 1, q + nq, by omega, by go_num, rfl, ⟨by rw [take_next HXG.out, take_next HYG.out, HT.out, HXY.out]⟩⟩
        case measure => simp [intOf]; omega
      · have hb : (x.toList == y.toList) = false := bytes_ne hxy
        have hne : xs ≠ ys := fun e => hxy (by
          have h1 := HXG.out
          rw [e, HYG.out] at h1
          exact (Option.some.inj h1).symm)
        have HE : Kp (xs ≠ ys) := ⟨hne⟩
        clear hxy hne
        go_wp2_with fail
        go_quiet (fail)
        go_wp2_with fail
        go_ret
        exact ⟨by rw [show regSame xs ys p p = false by simp [regSame, HE.out]]; rfl, (HK.out.drewN q).drewN nq⟩
    · have hke : k = n := by omega
      subst hke
      have he : xs = ys := by
        have h := HT.out
        rw [List.take_of_length_le (by have := HX.out; omega), List.take_of_length_le (by have := HY.out; omega)] at h
        exact h
      have HE : Kp (xs = ys) := ⟨he⟩
      clear HT he
      go_wp2_with fail
      go_ret
      exact ⟨by rw [show regSame xs ys p p = true by simp [regSame, HE.out]]; rfl, HK.out.drewN q⟩

end Go.Proofs

/- The walk of buf.New at lines that are too long. -/
namespace Go.Proofs
open Go.RowKit Go.Em

set_option maxRecDepth 100000 in
set_option maxHeartbeats 2000000 in
theorem new_buf_long {w : World} {a : Option Addr} {n c : Nat} {xs : List ByteArray} (hr : Rd w 1 a n (vstr xs)) (hn : n ≤ 2000) (hl : isLong xs = true) {st : Int} (s0 : 1 ≤ st) (s1 : st ≤ 200) :
    Calls Tryz.prog 8 #[.slice a n c, .int .i64 st] w fun e w' => e = .returned (.tuple #[.pointer none, .int .u16 90]) ∧ Keep w NoB w' := by
  have HR : Kp _ := ⟨hr⟩
  clear hr
  have hn2 : ¬ (2000 : Int) < n := by omega
  go_enter Tryz.func8, Tryz.ntmps8
  go_wp2_with ((with_reducible refine (new_undo _ s0 s1).mono ?_)
               rintro e w1 ⟨ub, rfl, k1, -, -⟩
               have K1 : Kp _ := ⟨k1⟩
               clear k1)
  refine (long_calls (HR.out.keep K1.out fun _ _ h => h) (by omega)).mono ?_
  rintro e w' ⟨rfl, rfl⟩
  rw [hl]
  go_wp2_with fail
  go_ret2
  exact ⟨rfl, K1.out⟩

end Go.Proofs

/- The walk of the law EditYanks. -/
namespace Go.Proofs
open Go.RowKit Go.Em

theorem rd_sub {w : World} {a : Option Addr} {n : Nat} {l : List ByteArray} (h : Rd w 1 a n (vstr l)) (i m : Nat) (hm : i + m ≤ n) (hp : 0 < n) : ∃ ad, a = some ad ∧ Rd w 1 (some (ad.add i)) m (vstr ((l.drop i).take m)) := by
  have hl : l.length = n := by have := h.len; rw [vstr_length, Nat.mul_one] at this; exact this
  obtain ⟨x, hx⟩ : ∃ x, l[0]? = some x := ⟨_, List.getElem?_eq_getElem (by omega)⟩
  obtain ⟨ad, ha, _⟩ := h.cells 0 _ (vstr_get hx)
  refine ⟨ad, ha, ⟨?_, fun j u hj => ?_, vstr_one _⟩⟩
  · rw [vstr_length, List.length_take, List.length_drop]; omega
  · have hj2 : (vstr l)[i + j]? = some u := by
      unfold vstr at hj ⊢
      rw [List.getElem?_map, List.getElem?_take] at hj
      split at hj
      · rw [List.getElem?_drop] at hj
        rw [List.getElem?_map]; exact hj
      · simp at hj
    obtain ⟨ad2, h2, h3⟩ := h.cells (i + j) u hj2
    rw [ha] at h2
    cases h2
    refine ⟨_, rfl, ?_⟩
    rw [Addr.add_add]
    exact h3

theorem slice_str (ad : Addr) {n c i m : Nat} (h1 : i + m ≤ n) (h2 : n ≤ c) (hci : i < c) (W : World) {x y : Int} (hx : x = (i : Int)) (hy : y = (i : Int) + (m : Int)) :
    (Instr.slice 22 (.slice (some ad) n c) (some (.int .i64 x)) (some (.int .i64 y)) none).run Tryz.prog W = .ok (.slice (some (ad.add i)) m (c - i)) W := by
  subst hx; subst hy
  have hci' : ¬ c = i := by omega
  go_simp
  rw [if_pos ⟨by omega, by omega⟩, if_pos (by omega), show ((i : Int) + (m : Int)).toNat - i = m by omega]

set_option maxRecDepth 100000 in
set_option maxHeartbeats 2000000 in
theorem yanks_known {w : World} {a : Option Addr} {n c : Nat} {xs : List ByteArray} (hr : Rd w 1 a n (vstr xs)) (hn : n < 9223372036854775807) (hw : weigh xs < 9223372036854775807) (fr tt name : Int) (h : (300 < n ∨ 6000 < weigh xs) ∨ n = 0) :
    Calls Tryz.prog 5 #[.slice a n c, .int .i64 fr, .int .i64 tt, .int .u8 name] w fun e w' => e = .returned (.bool true) ∧ Keep w NoB w' := by
  have HR : Kp _ := ⟨hr⟩
  clear hr
  by_cases hh : 300 < n ∨ 6000 < weigh xs
  · have hd : decide (300 < n ∨ 6000 < weigh xs ∨ 30 < 0) = true := by simpa [or_assoc] using hh
    clear h hh
    go_enter Tryz.func5, Tryz.ntmps5
    go_wp2_with fail
    refine (heavy_calls HR.out hn hw).mono ?_
    rintro e w' ⟨rfl, rfl⟩
    rw [hd]
    go_wp2_with ((with_reducible refine (known_calls _).mono ?_)
                 rintro e w' ⟨rfl, hb⟩
                 have HB : Kp _ := ⟨hb⟩
                 clear hb)
    go_ret
    exact ⟨rfl, Keep.of_below HB.out _⟩
  · have h0 : n = 0 := h.resolve_left hh
    subst h0
    have hd : decide (300 < 0 ∨ 6000 < weigh xs ∨ 30 < 0) = false := by simp at hh ⊢; omega
    clear h hh
    go_enter Tryz.func5, Tryz.ntmps5
    go_wp2_with fail
    refine (heavy_calls HR.out hn hw).mono ?_
    rintro e w' ⟨rfl, rfl⟩
    rw [hd]
    go_wp2_with ((with_reducible refine (known_calls _).mono ?_)
                 rintro e w' ⟨rfl, hb⟩
                 have HB : Kp _ := ⟨hb⟩
                 clear hb)
    go_ret
    exact ⟨rfl, Keep.of_below HB.out _⟩

set_option maxRecDepth 100000 in
set_option maxHeartbeats 2000000 in
theorem yanks_long {w : World} {a : Option Addr} {n c : Nat} {xs : List ByteArray} (hr : Rd w 1 a n (vstr xs)) (h0 : 0 < n) (hn : n ≤ 300) (hw : weigh xs ≤ 6000) (hl : isLong xs = true) (fr tt name : Int) :
    Calls Tryz.prog 5 #[.slice a n c, .int .i64 fr, .int .i64 tt, .int .u8 name] w fun e w' => e = .returned (.bool true) ∧ Keep w NoB w' := by
  have HR : Kp _ := ⟨hr⟩
  have HL : Kp _ := ⟨hl⟩
  clear hr hl
  have hd : decide (300 < n ∨ 6000 < weigh xs ∨ 30 < 0) = false := by simp; omega
  have hn0 : ¬ ((n : Int) = 0) := by omega
  go_enter Tryz.func5, Tryz.ntmps5
  go_wp2_with fail
  refine (heavy_calls HR.out (by omega) (by omega)).mono ?_
  rintro e w' ⟨rfl, rfl⟩
  rw [hd]
  clear hw
  go_wp2_with ((with_reducible refine (known_calls _).mono ?_)
               rintro e w1 ⟨rfl, hb⟩
               have HB : Kp _ := ⟨Keep.of_below hb NoB⟩
               clear hb)
  refine (new_buf_long (HR.out.keep HB.out fun _ _ h => h) (by omega) HL.out (by omega) (by omega)).mono ?_
  rintro e w2 ⟨rfl, k2⟩
  have K2 : Kp (Keep w NoB w2) := ⟨HB.out.trans k2 (Fresh.refl _ _)⟩
  clear k2
  go_wp2_with fail
  refine (new_regs w2).mono ?_
  rintro e w3 ⟨rb, G, rfl, r3, k3, f3⟩
  have K3 : Kp (Keep w NoB w3) := ⟨K2.out.trans k3 (Fresh.refl _ _)⟩
  clear r3 k3 f3
  go_wp2_with fail
  go_ret
  exact ⟨rfl, K3.out⟩

set_option maxRecDepth 100000 in
set_option maxHeartbeats 4000000 in
theorem yanks_ok {w : World} {a : Option Addr} {n c : Nat} {xs : List ByteArray} (hr : Rd w 1 a n (vstr xs)) (hc : n ≤ c) (hcm : c ≤ 9223372036854775807) (h0 : 0 < n) (hn : n ≤ 300) (hw : weigh xs ≤ 6000) (hl : isLong xs = false) (fr tt name : Int) (hnm0 : 0 ≤ name) (hnm1 : name < 256) :
    Calls Tryz.prog 5 #[.slice a n c, .int .i64 fr, .int .i64 tt, .int .u8 name] w fun e w' => e = .returned (.bool true) ∧ Keep w NoB w' := by
  have HR : Kp _ := ⟨hr⟩
  have HL : Kp _ := ⟨hl⟩
  have HW : Kp _ := ⟨hw⟩
  have HC : Kp _ := ⟨hc⟩
  have HCM : Kp _ := ⟨hcm⟩
  have hd : decide (300 < n ∨ 6000 < weigh xs ∨ 30 < 0) = false := by simp; omega
  clear hr hl hw hc hcm
  have hn0 : ¬ ((n : Int) = 0) := by omega
  go_enter Tryz.func5, Tryz.ntmps5
  go_wp2_with fail
  refine (heavy_calls HR.out (by omega) (by have := HW.out; omega)).mono ?_
  rintro e w' ⟨rfl, rfl⟩
  rw [hd]
  clear hd
  go_wp2_with ((with_reducible refine (known_calls _).mono ?_)
               rintro e w1 ⟨rfl, hb⟩
               have HB : Kp _ := ⟨Keep.of_below hb NoB⟩
               clear hb)
  refine (new_buf (HR.out.keep HB.out fun _ _ h => h) (by omega) HC.out HCM.out HL.out (by omega) (by omega)).mono ?_
  rintro e w2 ⟨bb, S, F, FS, rfl, b2, l2, a2, m2, o2, -, -, f2, -, k2⟩
  have K2 : Kp (Keep w NoB w2) := ⟨HB.out.trans k2 (Fresh.refl _ _)⟩
  have B2 : Kp _ := ⟨b2⟩
  have F2 : Kp (∀ b, F b → w.heap.size ≤ b) := ⟨fun b hb => Nat.le_trans HB.out.size (f2 b hb)⟩
  have L2 : Kp _ := ⟨l2⟩
  clear b2 l2 a2 m2 o2 f2 k2
  go_wp2_with fail
  refine (new_regs w2).mono ?_
  rintro e w3 ⟨rb, G, rfl, r3, k3, f3⟩
  have K3 : Kp (Keep w NoB w3) := ⟨K2.out.trans k3 (Fresh.refl _ _)⟩
  have B3 : Kp _ := ⟨B2.out.keep k3 fun _ _ h => h⟩
  have R3 : Kp _ := ⟨r3⟩
  have D3 : Kp (Dis F G) := ⟨fun b hF hG => by have := B2.out.lt b hF; have := f3 b hG; omega⟩
  have G3 : Kp (∀ b, G b → w.heap.size ≤ b) := ⟨fun b hb => Nat.le_trans K2.out.size (f3 b hb)⟩
  clear r3 k3 f3
  obtain ⟨i, hi⟩ : ∃ i : Nat, max fr 0 % (n : Int) = (i : Int) := ⟨(max fr 0 % (n : Int)).toNat, by have := Int.emod_nonneg (max fr 0) (b := (n : Int)) (by omega); omega⟩
  have hi2 : (i : Int) < (n : Int) := by rw [← hi]; exact Int.emod_lt_of_pos _ (by omega)
  have hib : max fr 0 % (n : Int) < 1000 := by omega
  have hib0 : 0 ≤ max fr 0 % (n : Int) := by omega
  have hmd : 0 < (n : Int) - (1 + max fr 0 % (n : Int)) + 1 := by omega
  have hmd0 : ¬ ((n : Int) - (1 + max fr 0 % (n : Int)) + 1 = 0) := by omega
  obtain ⟨m, hm⟩ : ∃ m : Nat, max tt 0 % ((n : Int) - (1 + max fr 0 % (n : Int)) + 1) = (m : Int) := ⟨(max tt 0 % ((n : Int) - (1 + max fr 0 % (n : Int)) + 1)).toNat, by have := Int.emod_nonneg (max tt 0) hmd0; omega⟩
  have hm2 : (m : Int) < (n : Int) - (1 + max fr 0 % (n : Int)) + 1 := by rw [← hm]; exact Int.emod_lt_of_pos _ hmd
  have hmb : max tt 0 % ((n : Int) - (1 + max fr 0 % (n : Int)) + 1) < 1000 := by omega
  have hmb0 : 0 ≤ max tt 0 % ((n : Int) - (1 + max fr 0 % (n : Int)) + 1) := by omega
  have HFR : Kp (1 + max fr 0 % (n : Int) = (i : Int) + 1) := ⟨by omega⟩
  have HTO : Kp (1 + max fr 0 % (n : Int) + max tt 0 % ((n : Int) - (1 + max fr 0 % (n : Int)) + 1) = (i : Int) + ((m + 1 : Nat) : Int)) := ⟨by omega⟩
  have HIM : Kp (i + (m + 1) ≤ n) := ⟨by omega⟩
  clear hi hi2 hm hm2 hmd
  go_wp2_with fail
  have hxl : xs.length = n := by have := HR.out.len; rw [vstr_length, Nat.mul_one] at this; exact this
  have hbg : S.lines = xs := L2.out.trans (if_neg fun e => by rw [e] at hxl; simp at hxl; omega)
  have hnr : rng 65 90 (97 + name % 26) = false := by
    cases h : rng 65 90 (97 + name % 26) with
    | false => rfl
    | true => have := rng_iff.1 h; omega
  have hkn : knownReg (97 + name % 26) = true := by
    have : rng 97 122 (97 + name % 26) = true := rng_iff.2 (by omega)
    simp [knownReg, this]
  have hwt : weigh ((xs.drop i).take (m + 1)) ≤ 20000 := by
    have h1 := weigh_take (xs.drop i) (m + 1)
    have h2 := weigh_append (xs.take i) (xs.drop i)
    rw [List.take_append_drop] at h2
    have := HW.out
    omega
  have HXL : Kp _ := ⟨hxl⟩
  have HBG : Kp _ := ⟨hbg⟩
  have HNR : Kp _ := ⟨hnr⟩
  have HKN : Kp _ := ⟨hkn⟩
  have HWT : Kp _ := ⟨hwt⟩
  clear hxl hbg hnr hkn hwt
  refine (do_y HFR.out HTO.out B3.out (by rw [HBG.out, HXL.out]; exact HIM.out) (by rw [HBG.out, HXL.out]; omega) R3.out (by omega) (if_neg (by omega)) (by omega) (by omega) HKN.out (by omega) HNR.out (by rw [HBG.out]; exact HWT.out)).mono ?_
  rintro e w4 ⟨G4, rfl, r4, k4, f4⟩
  have R4 : Kp _ := ⟨r4⟩
  have B4 : Kp _ := ⟨B3.out.keep k4 D3.out⟩
  have K4 : Kp (Keep w NoB w4) := ⟨K3.out.trans k4 fun b hb => .inr (G3.out b hb)⟩
  have D4 : Kp (Dis F G4) := ⟨fun b hF hG => (f4 b hG).elim (fun h => D3.out b hF h) fun h => by have := B3.out.lt b hF; omega⟩
  have G4' : Kp (∀ b, G4 b → w.heap.size ≤ b) := ⟨fun b hb => (f4 b hb).elim (fun h => G3.out b h) fun h => Nat.le_trans K3.out.size h⟩
  clear r4 k4 f4
  go_wp2_with fail
  refine (do_p HFR.out HTO.out B4.out (by rw [HBG.out, HXL.out]; exact HIM.out) (by rw [HBG.out, HXL.out]; omega) (by omega)).mono ?_
  rintro e w5 ⟨pa, pc, pb, rfl, s5, b5, k5, f5⟩
  have S5 : Kp _ := ⟨s5⟩
  have B5 : Kp _ := ⟨b5⟩
  have R5 : Kp _ := ⟨R4.out.keep k5 D4.out.symm⟩
  have K5 : Kp (Keep w NoB w5) := ⟨K4.out.trans k5 fun b hb => .inr (F2.out b hb)⟩
  clear s5 b5 k5 f5
  have hget : yankF (fun _ => none) (97 + name % 26) ((S.lines.drop i).take (m + 1), true) (97 + name % 26) = some ((S.lines.drop i).take (m + 1), true) := by
    unfold yankF
    rw [if_neg (by omega)]
    unfold fput
    rw [if_neg (by omega), if_pos rfl]
  have hlen : ((S.lines.drop i).take (m + 1)).length = m + 1 := by rw [List.length_take, List.length_drop, HBG.out, HXL.out]; have := HIM.out; omega
  have r5 := R5.out
  have s5 := S5.out
  obtain ⟨ys, hys⟩ : ∃ ys, (S.lines.drop i).take (m + 1) = ys := ⟨_, rfl⟩
  rw [hys] at hget hlen r5 s5
  have HYS : Kp (ys = (xs.drop i).take (m + 1)) := ⟨by rw [← hys, HBG.out]⟩
  clear R5 S5 hys
  have R5 : Kp _ := ⟨r5⟩
  have S5 : Kp _ := ⟨s5⟩
  have HGET : Kp _ := ⟨hget⟩
  have HLEN : Kp _ := ⟨hlen⟩
  clear hget hlen r5 s5
  go_wp2_with fail
  refine (get_ok R5.out (by omega) (by omega) HKN.out HNR.out HGET.out).mono ?_
  rintro e w6 ⟨ga, gc, gb, rfl, s6, k6, f6⟩
  simp only [HLEN.out] at s6 ⊢
  have S6 : Kp _ := ⟨s6⟩
  have S5' : Kp _ := ⟨S5.out.keep k6 fun _ _ h => h⟩
  have B6 : Kp _ := ⟨B5.out.keep k6 fun _ _ h => h⟩
  have K6 : Kp (Keep w NoB w6) := ⟨K5.out.trans k6 (Fresh.refl _ _)⟩
  clear s6 k6 f6
  rw [HTO.out, HFR.out]
  go_wp2_with fail
  have hx1 : (w6.alloc (.cells #[.slice ga (m + 1) gc, .bool true] 54)).heap[w6.heap.size]? = some (.cells #[.slice ga (m + 1) gc, .bool true] 54 (0, 0)) := heap_alloc_new w6 _
  have hK7 : Keep w6 NoB (w6.alloc (.cells #[.slice ga (m + 1) gc, .bool true] 54)) := (Keep.refl w6 NoB).alloc _
  generalize (w6.alloc (.cells #[.slice ga (m + 1) gc, .bool true] 54)) = V at *
  obtain ⟨tb, kb, oa, on, oc, -, e0, -, -, e7, -, ⟨FT, hT, -, -⟩, -⟩ := (B6.out.keep hK7 fun _ _ h => h).cells
  have c20 : V.cell? ⟨w6.heap.size, 0, none⟩ = some (.slice ga (m + 1) gc) := by rw [cell_blk hx1]; rfl
  have c21 : V.cell? ⟨w6.heap.size, 1, none⟩ = some (.bool true) := by rw [cell_blk hx1]; rfl
  have HTT : Kp _ := ⟨hT⟩
  have hgo : ∀ W, Keep V NoB W → Keep V NoB W ∧ W.cell? ⟨w6.heap.size, 0, none⟩ = some (.slice ga (m + 1) gc) ∧ W.cell? ⟨w6.heap.size, 1, none⟩ = some (.bool true) ∧ W.cell? ⟨bb, 0, none⟩ = some (.pointer (some ⟨tb, 0, none⟩)) :=
    fun W h => ⟨h, h.cell c20 fun h => h, h.cell c21 fun h => h, h.cell e0 fun h => h⟩
  have HGO : Kp _ := ⟨hgo⟩
  have S7 : Kp _ := ⟨S6.out.keep hK7 fun _ _ h => h⟩
  have P7 : Kp _ := ⟨S5'.out.keep hK7 fun _ _ h => h⟩
  have B7 : Kp _ := ⟨B6.out.keep hK7 fun _ _ h => h⟩
  have K7 : Kp (Keep w NoB V) := ⟨K6.out.trans hK7 (Fresh.refl _ _)⟩
  obtain ⟨ad, hae, hsub⟩ := rd_sub (HR.out.keep K7.out fun _ _ h => h) i (m + 1) HIM.out h0
  subst hae
  have HSUB : Kp _ := ⟨hsub⟩
  have hwr : IntKind.i64.wrap ((i : Int) + 1 - 1) = (i : Int) := by rw [show (i : Int) + 1 - 1 = (i : Int) by omega]; exact IntWalk.i64_in _ (by have := HIM.out; omega)
  clear hx1 hK7 hT e0 e7 c20 c21 hgo hsub
  refine wp_region_pl (fun W => Keep V NoB W ∧ W.cell? ⟨w6.heap.size, 0, none⟩ = some (.slice ga (m + 1) gc) ∧ W.cell? ⟨w6.heap.size, 1, none⟩ = some (.bool true) ∧ W.cell? ⟨bb, 0, none⟩ = some (.pointer (some ⟨tb, 0, none⟩)))
    (.run 0 18 (.ac 18 (.run 19 8 (.ac 27 (.run 28 6 (.rd 35 (.ac 34 (.ac 36 (.run 37 3 (.rd 41 (.ac 40 (.run 42 2 (.ac 44 .done))))))))))))) 45 (by kernel_rfl) (by kernel_rfl) (fun _ _ d _ _ h => by cases d <;> exact h) (HGO.out _ (Keep.refl V NoB).drew) ?_
  iterate 16
    (refine' pl_read _ rfl rfl ?_ ?_
     rotate_left
     · (intro W' hW'; (try dsimp only at hW'); obtain ⟨-, q0, q1, q2⟩ := hW'; go_simp; try rfl)
     simp only [Act.put, List.setIfInBounds_toArray, List.set_cons_zero, List.set_cons_succ])
  have hwr2 : IntKind.i64.wrap (i : Int) = (i : Int) := IntWalk.i64_in _ (by have := HIM.out; omega)
  have hsl : ∀ W, (Instr.slice 22 (.slice (some ad) n c) (some (.int .i64 (i : Int))) (some (.int .i64 ((i : Int) + ((m : Int) + 1)))) none).run Tryz.prog W = .ok (.slice (some (ad.add i)) (m + 1) (c - i)) W :=
    fun W => slice_str ad (n := n) HIM.out HC.out (by have := HIM.out; have := HC.out; omega) W rfl (by omega)
  refine' pl_read (v := .slice (some (ad.add i)) (m + 1) (c - i)) _ rfl rfl ?_ ?_
  · intro W' hW'
    clear hW'
    have hs := hsl W'
    go_simp
    try rfl
  simp only [Act.put, List.setIfInBounds_toArray, List.set_cons_zero, List.set_cons_succ]
  iterate 1
    (refine' pl_read _ rfl rfl ?_ ?_
     rotate_left
     · (intro W' hW'; (try dsimp only at hW'); go_simp; try rfl)
     simp only [Act.put, List.setIfInBounds_toArray, List.set_cons_zero, List.set_cons_succ])
  refine pl_do _ rfl ?_
  go_wp2_with fail
  refine (same_reg (Rd.of_sl (S7.out.keep (Keep.refl V NoB).drew fun _ _ h => h) (vstr_one _)) (HSUB.out.keep (Keep.refl V NoB).drew fun _ _ h => h) (by have := HIM.out; omega)).mono ?_
  rintro e w8 ⟨rfl, k8⟩
  rw [show regSame ys ((xs.drop i).take (m + 1)) true true = true by rw [← HYS.out]; exact regSame_self _ _]
  have K8 : Kp (Keep V NoB w8) := ⟨(Keep.refl V NoB).drew.trans k8 (Fresh.refl _ _)⟩
  clear k8
  go_wp2_with fail
  refine ⟨HGO.out _ K8.out, ?_⟩
  iterate 7
    (refine' pl_read _ rfl rfl ?_ ?_
     rotate_left
     · (intro W' hW'; (try dsimp only at hW'); obtain ⟨-, q0, q1, q2⟩ := hW'; go_simp; try rfl)
     simp only [Act.put, List.setIfInBounds_toArray, List.set_cons_zero, List.set_cons_succ])
  refine' pl_read (v := .slice (some (ad.add i)) (m + 1) (c - i)) _ rfl rfl ?_ ?_
  · intro W' hW'
    clear hW'
    have hs := hsl W'
    go_simp
    try rfl
  simp only [Act.put, List.setIfInBounds_toArray, List.set_cons_zero, List.set_cons_succ]
  clear hsl hwr hwr2
  refine pl_do _ rfl ?_
  go_wp2_with fail
  refine (same_calls (Rd.of_sl (P7.out.keep K8.out fun _ _ h => h) (vstr_one _)) (HSUB.out.keep K8.out fun _ _ h => h) (by have := HIM.out; omega)).mono ?_
  rintro e w9 ⟨rfl, q9, rfl⟩
  rw [show decide (ys = (xs.drop i).take (m + 1)) = true from decide_eq_true HYS.out]
  have K9 : Kp (Keep V NoB (w8.drewN q9)) := ⟨K8.out.drewN q9⟩
  generalize w8.drewN q9 = w9 at *
  go_wp2_with fail
  refine ⟨HGO.out _ K9.out, ?_⟩
  iterate 7
    (refine' pl_read _ rfl rfl ?_ ?_
     rotate_left
     · (intro W' hW'; (try dsimp only at hW'); obtain ⟨-, q0, q1, q2⟩ := hW'; go_simp; try rfl)
     simp only [Act.put, List.setIfInBounds_toArray, List.set_cons_zero, List.set_cons_succ])
  refine pl_do _ rfl ?_
  go_wp2_with fail
  refine (lines_text (HTT.out.keep K9.out fun _ _ h => h)).mono ?_
  rintro e w10 ⟨la, lc, lb, rfl, s10, k10, f10⟩
  have S10 : Kp _ := ⟨s10⟩
  have K10 : Kp (Keep V NoB w10) := ⟨K9.out.trans k10 (Fresh.refl _ _)⟩
  clear s10 k10 f10
  go_wp2_with fail
  refine ⟨HGO.out _ K10.out, ?_⟩
  refine pl_do _ rfl ?_
  go_wp2_with fail
  refine (same_calls (Rd.of_sl S10.out (vstr_one _)) (HR.out.keep (K7.out.trans K10.out (Fresh.refl _ _)) fun _ _ h => h) (by rw [HBG.out, HXL.out]; omega)).mono ?_
  rintro e w11 ⟨rfl, q11, rfl⟩
  rw [show decide (S.lines = xs) = true from decide_eq_true HBG.out]
  have K11 : Kp (Keep V NoB (w10.drewN q11)) := ⟨K10.out.drewN q11⟩
  generalize w10.drewN q11 = w11 at *
  go_wp2_with fail
  refine ⟨HGO.out _ K11.out, ?_⟩
  iterate 4
    (refine' pl_read _ rfl rfl ?_ ?_
     rotate_left
     · (intro W' hW'; (try dsimp only at hW'); obtain ⟨-, q0, q1, q2⟩ := hW'; go_simp; try rfl)
     simp only [Act.put, List.setIfInBounds_toArray, List.set_cons_zero, List.set_cons_succ])
  refine pl_do _ rfl ?_
  go_wp2_with fail
  refine (cursor_buf (B7.out.keep K11.out fun _ _ h => h)).mono ?_
  rintro e w12 ⟨rfl, rfl⟩
  go_wp2_with fail
  refine ⟨HGO.out _ K11.out, ?_⟩
  iterate 2
    (refine' pl_read _ rfl rfl ?_ ?_
     rotate_left
     · (intro W' hW'; (try dsimp only at hW'); obtain ⟨-, q0, q1, q2⟩ := hW'; go_simp; try rfl)
     simp only [Act.put, List.setIfInBounds_toArray, List.set_cons_zero, List.set_cons_succ])
  refine pl_do _ rfl ?_
  go_wp2_with fail
  refine ⟨HGO.out _ K11.out, ?_⟩
  refine pl_end ?_
  simp only [List.drop_succ_cons, List.drop_zero, List.drop_nil]
  go_wp2_with fail
  go_ret
  exact ⟨by first | rfl | (simp; have := HTO.out; omega), K7.out.trans K11.out (Fresh.refl _ _)⟩

/-- EditYanks is true. -/
theorem yanks_calls {w : World} {a : Option Addr} {n c : Nat} {xs : List ByteArray} (hr : Rd w 1 a n (vstr xs)) (hc : n ≤ c) (hcm : c ≤ 9223372036854775807) (hn : n ≤ 1048576) (hw : weigh xs ≤ 9000000) (fr tt name : Int) (hnm0 : 0 ≤ name) (hnm1 : name < 256) :
    Calls Tryz.prog 5 #[.slice a n c, .int .i64 fr, .int .i64 tt, .int .u8 name] w fun e w' => e = .returned (.bool true) ∧ Keep w NoB w' := by
  by_cases h : (300 < n ∨ 6000 < weigh xs) ∨ n = 0
  · exact yanks_known hr (by omega) (by omega) fr tt name h
  · have h1 : 0 < n := by omega
    have h2 : n ≤ 300 := by omega
    have h3 : weigh xs ≤ 6000 := by omega
    cases hl : isLong xs with
    | true => exact yanks_long hr h1 h2 h3 hl fr tt name
    | false => exact yanks_ok hr hc hcm h1 h2 h3 hl fr tt name hnm0 hnm1

end Go.Proofs

/- EditYanks: the law answers true at every input of bulk at most 1048576, and each argument reads afterwards as it read before. Its card: what the row lists of the library's tables is tied to the program's text by the given tie. -/
namespace Go.Proofs.YtajpgjbepebcmaaGreatDoor.editYanks
open Go.RowKit Go.Em Go.ChangeShapes Go.WideShapes Go.ChangeAt
open Go.Proofs

def flat : Nat → DataW Unit → List Value
  | 0, _ => []
  | _ + 1, .lit (.int k v) => [.int k v]
  | n + 1, .agg l => l.flatMap (flat n)
  | _, _ => []
def lay (d : DataW Unit) (o : Obj) : Obj := match o with
  | .cells _ t frozen => .cells (flat 3 d).toArray t frozen
  | o => o
/-- A world for the witness: the settled one, with the tables that the row lists. -/
noncomputable def laidWorld (os : Os) : World :=
  let w := World.holding Tryz.prog os ⟨#[], #[], []⟩
  { w with heap := ((((w.heap.modify 4 (lay Rows.laid_math_bits_deBruijn32tab)).modify 5 (lay Rows.laid_math_bits_deBruijn64tab)).modify 0 (lay Rows.laid_internal_strconv_uint64pow10)).modify 2 (lay Rows.laid_unicode_utf8_acceptRanges)).modify 1 (lay Rows.laid_unicode_utf8_first) }

set_option maxRecDepth 100000 in
theorem contract (H : Type) (enc : TypeId × Value → H) (W : World) (base : Nat) (args : Array Value) (ds gs : List (DataW H)) (before : List MemPlace)
    (hval : ∀ (j : Nat) t v, Tryz.f5.params[j]? = some t → args[j]? = some v → Value.okWide Tryz.prog W .any base t v)
    (hW : DataW.Whole enc Tryz.prog Tryz.f5.params.toList Rows.editYanksSpec.vars false W args.toList ds gs before) (hk : Rows.uptoSmall H (ds ++ gs) = true) :
    Calls Tryz.prog 5 args W fun e W' => ∃ v, e = .returned v ∧ Rows.editYanksSpec.post enc Tryz.prog Tryz.f5 false true false false W args v W' := by
  have hW' := hW
  obtain ⟨p, q, hA0, hV, rfl, hfz, hnd⟩ := hW
  have hA : DataW.TrodAll enc Tryz.prog W 0 (fun _ => true) true Tryz.f5.params.toList args.toList ds p := hA0
  rw [Tryz.params5] at hA hval
  obtain ⟨v0, vs0, d0, ds0, p0, q0, hargs, rfl, rfl, h0, r0⟩ := trodAll_cons hA
  obtain ⟨v1, vs1, d1, ds1, p1, q1, rfl, rfl, rfl, h1, r1⟩ := trodAll_cons r0
  obtain ⟨v2, vs2, d2, ds2, p2, q2, rfl, rfl, rfl, h2, r2⟩ := trodAll_cons r1
  obtain ⟨v3, vs3, d3, ds3, p3, q3, rfl, rfl, rfl, h3, r3⟩ := trodAll_cons r2
  obtain ⟨rfl, rfl, rfl⟩ := trodAll_nil r3
  obtain rfl : args = #[v0, v1, v2, v3] := by cases args; simp_all
  obtain ⟨rfl, rfl⟩ := trodVars_none hV
  obtain ⟨a, n, c, xs, rfl, hr, hc, hcm, hnb, hwb⟩ := lines_in (hval 0 22 v0 rfl rfl) h0
  obtain ⟨n1, rfl, rfl, rfl, -⟩ := open_int Tryz.underlying3 (hval 1 3 v1 rfl rfl) h1
  obtain ⟨n2, rfl, rfl, rfl, -⟩ := open_int Tryz.underlying3 (hval 2 3 v2 rfl rfl) h2
  obtain ⟨n3, rfl, rfl, rfl, hw3⟩ := open_int Tryz.underlying5 (hval 3 5 v3 rfl rfl) h3
  have hbulk : Rows.uptoBulkAll ([d0, .lit (.int .i64 n1), .lit (.int .i64 n2), .lit (.int .u8 n3)] ++ []) ≤ 1048576 := of_decide_eq_true hk
  simp only [List.append_nil, Rows.uptoBulkAll] at hbulk
  have hb3 : 0 ≤ n3 ∧ n3 < 256 := by
    simp only [Lit.wf, Bool.and_eq_true, decide_eq_true_eq] at hw3
    have h1 : IntKind.u8.min = 0 := by kernel_rfl
    have h2 : IntKind.u8.max = 255 := by kernel_rfl
    rw [h1, h2] at hw3
    omega
  refine (yanks_calls hr hc hcm (by omega) (by omega) n1 n2 n3 hb3.1 hb3.2).mono fun e W' ⟨he, hkp⟩ => ?_
  subst he
  exact ⟨_, rfl, law_post rfl rfl (by kernel_rfl) hW' rfl hkp.below⟩

theorem laid_met (os : Os) : laidMet Tryz.prog Rows.editYanksUptoRow.laid ((laidWorld os).forCall (fun _ _ => 0) ⟨#[], #[.slice none 0 0, .int .i64 0, .int .i64 0, .int .u8 0], []⟩).memory :=
  laidMet_of_run' 8 (by kernel_rfl) (by kernel_rfl)
theorem reads (os : Os) {H : Type} (enc : TypeId × Value → H) : ∃ places, DataW.whole enc Tryz.prog ((laidWorld os).forCall (fun _ _ => 0) ⟨#[], #[.slice none 0 0, .int .i64 0, .int .i64 0, .int .u8 0], []⟩).memory Tryz.f5.params.toList Rows.editYanksSpec.vars false #[Value.slice none 0 0, .int .i64 0, .int .i64 0, .int .u8 0].toList 8 = some ([.nil, .lit (.int .i64 0), .lit (.int .i64 0), .lit (.int .u8 0)], [], places) :=
  ⟨[], by kernel_rfl⟩

set_option maxRecDepth 100000 in
theorem liftedUpto (os : Os) (started : os.Started) (H : Type) (enc : TypeId × Value → H) (F : Stop.Interp) :
    ReturnsInHanded {} Tryz.checked os 5 .any ((Rows.OpenSpec.upto Rows.editYanksSpec).preRow enc Tryz.prog Tryz.f5 Rows.editYanksUptoRow.domain false Rows.editYanksUptoRow.laid) (((Rows.OpenSpec.upto Rows.editYanksSpec).at F).post enc Tryz.prog Tryz.f5 false true false false) := by
  obtain ⟨places, hx⟩ := reads os enc
  refine returnsInHanded_of_row (C := Tryz.checked) (s := Rows.OpenSpec.upto Rows.editYanksSpec) own started (by kernel_rfl) Tryz.func5
    (witness_row_at (enc := enc) (C := Tryz.checked) false (laidWorld os) #[.slice none 0 0, .int .i64 0, .int .i64 0, .int .u8 0] rfl (by kernel_rfl) (by kernel_rfl) (by kernel_rfl)
      (OpenSpec.preRow_of_cond 8 hx (by kernel_rfl) (fun k hk => by cases hk; kernel_rfl) (by kernel_rfl) (laid_met os))) ?_
  intro W base args ds gs before hval hW _ hcond _ _ _ _
  exact contract H enc W base args ds gs before hval hW (hcond _ rfl)

theorem saidUpto : Rows.EditYanksUptoSaid :=
  OpenClaim.holds_of_cond 5 Tryz.f5 rfl rfl rfl rfl rfl rfl rfl ⟨rfl, rfl, rfl, rfl, rfl⟩ rfl rfl rfl rfl rfl (by kernel_rfl) Tryz.func5 (by kernel_rfl)
    (of_decide_eq_true (by kernel_rfl)) (by unfold Func.isWrapper; first | (rw [if_pos (by decide +kernel)]; kernel_rfl) | (rw [if_neg (by decide +kernel)]; exact ⟨rfl, rfl⟩))
    (fun os started H enc _ F => by rw [OpenClaim.pre_eq_preRow]; exact liftedUpto os started H enc F)

/-- No parameter wants a stand-in; the program's own looks are off. -/
theorem plain (f : FuncId) (fn : Func) (hf : Tryz.pinned.checked.prog.funcNamed "emendator/emendatorlaw16.EditYanks" = some f) (hfn : Tryz.pinned.checked.prog.funcs[f]? = some fn) :
    true = Tryz.pinned.checked.prog.looks [] ∧ ∀ (j : Nat) t, fn.params[j]? = some t → Tryz.pinned.checked.prog.wantsStandIn t = false := by
  obtain rfl : f = 5 := Option.some.inj ((show Tryz.prog.funcNamed "emendator/emendatorlaw16.EditYanks" = some 5 by kernel_rfl).symm.trans hf) |>.symm
  obtain rfl : fn = Tryz.f5 := (Option.some.inj (Tryz.func5.symm.trans hfn)).symm
  refine ⟨by kernel_rfl, fun j t ht => ?_⟩
  have hall : Tryz.f5.params.toList.all (fun t => Tryz.prog.wantsStandIn t == false) = true := by kernel_rfl
  have := List.all_eq_true.1 hall t (by rw [← Array.mem_def]; exact Array.mem_of_getElem? ht)
  have h : Tryz.prog.wantsStandIn t = false := by simpa using this
  exact h

/-- THE CARD. -/
theorem cardUpto : Rows.EditYanksUptoCardSaid :=
  Claim7.holds_tied_plain_at .later [] _ _ _ _ saidUpto (fun _ h => by cases h) (by kernel_rfl) (fun _ h => by cases h) editYanksUpto_row_tie rfl ⟨rfl, rfl⟩ (by kernel_rfl) rfl plain (by kernel_rfl)

end Go.Proofs.YtajpgjbepebcmaaGreatDoor.editYanks
#print axioms Go.Proofs.YtajpgjbepebcmaaGreatDoor.editYanks.cardUpto
