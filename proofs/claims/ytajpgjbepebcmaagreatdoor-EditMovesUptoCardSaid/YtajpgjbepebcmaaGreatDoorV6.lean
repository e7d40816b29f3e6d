/- EditMoves: the law answers true at every input of bulk at most 1048576, and each argument reads afterwards as it read before. Its card: what the row lists of the library's tables is tied to the program's text by the given tie. -/
import Derived.Test.YtajpgjbepebcmaaGreatDoorV5
import Derived.Deep.DeepLaidRun
/- The walk of work.remove. -/
namespace Go.Proofs
open Go.RowKit Go.Em

/-- What stands behind a command that changes a text and the registers. -/
def BothPost (w : World) (bb rb : Nat) (S : BS) (F G : Blocks) (l : List ByteArray) (f' : Int → Option RegD) (w' : World) : Prop :=
  ∃ (S' : BS) (F' G' : Blocks), BMem w' bb S' F' ∧ RMem w' rb f' G' ∧ Dis G' F' ∧ Keep w (Or2 F G) w' ∧ S'.lines = l ∧ S'.marks = S.marks ∧ S'.opens.length = S.opens.length + 3 ∧ Fresh w F F' ∧ Fresh w G G'

theorem Rd.nil (w : World) : Rd w 1 none 0 (vstr []) := ⟨rfl, fun j u h => by simp [vstr] at h, fun u h => by simp [vstr] at h⟩
set_option maxRecDepth 100000 in
set_option maxHeartbeats 2000000 in
theorem remove_work {w : World} {wb : Nat} {c : CV} {bb rb : Nat} {d : Int} {S : BS} {F G : Blocks} {i n : Nat} {f : Int → Option RegD} (h : WMem w wb c bb rb ((i : Int) + 1) ((i : Int) + (n : Int)) d) (hB : BMem w bb S F) (hwF : ¬ F wb) (hmk : S.marks = noMarks) (hi : i + n ≤ S.lines.length) (hmost : S.lines.length ≤ 2000)
    (hR : RMem w rb f G) (hwG : ¬ G wb) (hd : Dis F G) (hn : 0 < n) (hall : ¬ n = S.lines.length) (hop : S.opens.length ≤ 3000000) (hname : c.reg = 0) (hw : weigh ((S.lines.drop i).take n) ≤ 20000) :
    Calls Tryz.prog 46 #[.pointer (some ⟨wb, 0, none⟩)] w fun e w' => e = .returned (.int .u16 0) ∧
      BothPost w bb rb S F G (S.lines.take i ++ [] ++ S.lines.drop (i + n)) (cutF f ((S.lines.drop i).take n, true)) w' := by
  have c11 : w.cell? ⟨wb, 11, none⟩ = some (.pointer (some ⟨rb, 0, none⟩)) := by rw [cell_blk h]; rfl
  have HW : Kp _ := ⟨h⟩
  have HB : Kp _ := ⟨hB⟩
  have HR : Kp _ := ⟨hR⟩
  have HI : Kp _ := ⟨hi⟩
  have HM : Kp _ := ⟨hmost⟩
  have HNM : Kp (regOf c.reg = 34) := ⟨if_pos hname⟩
  have HWG : Kp _ := ⟨hwG⟩
  have HWF : Kp _ := ⟨hwF⟩
  have HWT : Kp _ := ⟨hw⟩
  have HLN : Kp (((S.lines.drop i).take n).length = n) := ⟨by rw [List.length_take, List.length_drop]; omega⟩
  have HNE : Kp ((S.lines.drop i).take n ≠ []) := ⟨fun e => by have := HLN.out; rw [e] at this; simp at this; omega⟩
  have HRest : Kp (S.marks = noMarks ∧ 0 < n ∧ ¬ n = S.lines.length ∧ S.opens.length ≤ 3000000 ∧ Dis F G) := ⟨hmk, hn, hall, hop, hd⟩
  have C11 : Kp _ := ⟨c11⟩
  clear h hB hR hi hmost hname hwG hw c11 hmk hn hall hop hd hwF
  go_enter Tryz.func46, Tryz.ntmps46
  go_wp2_with fail
  refine (lines_work HW.out HB.out HI.out (by have := HM.out; omega)).mono ?_
  rintro e w1 ⟨sa, sc, sb, rfl, s1, k1, f1⟩
  have S1 : Kp _ := ⟨s1⟩
  have K1 : Kp (Keep w NoB w1) := ⟨k1⟩
  have C11' : Kp _ := ⟨k1.cell C11.out fun h => h⟩
  clear s1 k1 f1
  go_wp2_with fail
  refine wp_region_pl (fun W' => W'.cell? ⟨wb, 11, none⟩ = some (.pointer (some ⟨rb, 0, none⟩)))
    (.rds [0, 1, 2, 3, 4, 6, 7] (.ac 5 (.ac 8 (.ac 9 .done)))) 10 (by kernel_rfl) (by kernel_rfl) (fun _ _ d _ _ h => by cases d <;> exact h) C11'.out ?_
  iterate 7
    (refine' pl_read _ rfl rfl ?_ ?_
     rotate_left
     · (intro W' hW'; (try dsimp only at hW'); go_simp; try rfl)
     simp only [Act.put, List.setIfInBounds_toArray, List.set_cons_zero, List.set_cons_succ])
  refine pl_do _ rfl ?_
  go_wp2_with ((refine (reg_work ((HW.out.keep K1.out fun h => h).keep (Keep.refl w1 NoB).drew fun h => h)).mono ?_)
               rintro e w' ⟨rfl, rfl⟩
               rw [HNM.out])
  refine ⟨C11'.out, ?_⟩
  refine pl_do _ rfl ?_
  go_wp2_with fail
  have K1d : Keep w NoB w1.drew := K1.out.drew
  refine (cut_ok (HR.out.keep K1d fun _ _ h => h) (Rd.of_sl (S1.out.keep (Keep.refl w1 NoB).drew fun _ _ h => h) (vstr_one _)) HNE.out HWT.out).mono ?_
  rintro e w2 ⟨G', rfl, r2, k2, f2⟩
  have R2 : Kp _ := ⟨r2⟩
  have K2 : Kp (Keep w G w2) := ⟨(K1d.mono fun _ h => h.elim).trans k2 (Fresh.refl _ _)⟩
  have F2 : Kp (Fresh w G G') := ⟨fun b hb => (f2 b hb).imp id fun e => Nat.le_trans K1d.size e⟩
  clear r2 k2 f2 K1d
  go_wp2_with fail
  refine ⟨K2.out.cell C11.out HWG.out, ?_⟩
  refine pl_do _ rfl ?_
  go_wp2_with fail
  refine ⟨K2.out.cell C11.out HWG.out, ?_⟩
  refine pl_end ?_
  simp only [List.drop_succ_cons, List.drop_nil]
  go_wp2_with fail
  have HW2 : Kp _ := ⟨HW.out.keep K2.out HWG.out⟩
  have c12 : w2.cell? ⟨wb, 12, none⟩ = some (.int .i64 ((i : Int) + 1)) := by rw [cell_blk HW2.out]; rfl
  have C12 : Kp _ := ⟨c12⟩
  refine wp_region_pl (fun W' => W'.cell? ⟨wb, 12, none⟩ = some (.int .i64 ((i : Int) + 1)))
    (.run 0 11 (.ac 11 (.ac 12 .done))) 13 (by kernel_rfl) (by kernel_rfl) (fun _ _ d _ _ h => by cases d <;> exact h) C12.out ?_
  iterate 11
    (refine' pl_read _ rfl rfl ?_ ?_
     rotate_left
     · (intro W' hW'; (try dsimp only at hW'); go_simp; try rfl)
     simp only [Act.put, List.setIfInBounds_toArray, List.set_cons_zero, List.set_cons_succ])
  refine pl_do _ rfl ?_
  go_wp2_with fail
  have kd : Keep w2 NoB w2.drew := (Keep.refl w2 NoB).drew
  obtain ⟨hmk, hn, hall, hop, hd⟩ := HRest.out
  have hfl : ∀ b, F b → b < w.heap.size := HB.out.lt
  have hB2 : BMem w2.drew bb S F := (HB.out.keep K2.out fun b hb hg => hd b hb hg).keep kd fun _ _ h => h
  refine (put_work (HW2.out.keep kd fun h => h) hB2 HWF.out hmk (i := i) (n := n) (m := 0) (c := 0) (a := none) (ls := []) rfl rfl HI.out (Rd.nil w2.drew) (by omega) (by omega) (by have := HM.out; omega) HM.out rfl (by omega) (by omega) hop).mono ?_
  rintro e w3 ⟨rfl, S', ⟨F', b3, k3, f3⟩, h1, h2, h3, h4⟩
  have k3' : Keep w2 F w3 := (kd.mono fun _ h => h.elim).trans k3 (Fresh.refl _ _)
  have hdG : Dis G' F := fun b hb hf => by
    rcases F2.out b hb with h | h
    · exact hd b hf h
    · have := hfl b hf; omega
  have hRes : Kp (BothPost w bb rb S F G (S.lines.take i ++ [] ++ S.lines.drop (i + n)) (cutF f ((S.lines.drop i).take n, true)) w3) :=
    ⟨S', F', G', b3, R2.out.keep k3' hdG, fun b hb hf => by
      rcases f3 b hf with h | h
      · exact hdG b hb h
      · have := R2.out.lt b hb
        have : w2.drew.heap.size = w2.heap.size := rfl
        omega, (K2.out.mono fun _ h => .inr h).trans (k3'.mono fun _ h => .inl h) (Fresh.refl _ _), h1, h3, h4, fun b hb => (f3 b hb).imp id fun h => Nat.le_trans K2.out.size h, F2.out⟩
  have C12' : Kp _ := ⟨k3'.cell C12.out HWF.out⟩
  clear b3 k3 f3 h1 h2 h3 h4 k3' hdG hB2 kd
  go_wp2_with fail
  refine ⟨C12'.out, ?_⟩
  refine pl_do _ rfl ?_
  go_wp2_with fail
  refine ⟨C12'.out, ?_⟩
  refine pl_end ?_
  simp only [List.drop_succ_cons, List.drop_nil]
  go_wp2_with fail
  go_ret
  exact ⟨rfl, hRes.out⟩

end Go.Proofs

/- The walk of work.paste, of the nameless register. -/
namespace Go.Proofs
open Go.RowKit Go.Em

set_option maxRecDepth 100000 in
set_option maxHeartbeats 4000000 in
theorem paste_work {w : World} {wb : Nat} {cv : CV} {bb rb : Nat} {fr tt d : Int} {S : BS} {F G : Blocks} {i : Nat} {f : Int → Option RegD} {x : RegD} (h : WMem w wb cv bb rb fr tt d) (htt : tt = (i : Int)) (hB : BMem w bb S F) (hwF : ¬ F wb) (hmk : S.marks = noMarks) (hi : i ≤ S.lines.length)
    (hR : RMem w rb f G) (hreg : cv.reg = 0) (hbang : cv.bang = false) (hx : f 34 = some x) (hx0 : x.1 ≠ []) (hl : isLong x.1 = false) (hlim : S.lines.length + x.1.length ≤ 2000) (hop : S.opens.length ≤ 3000000) :
    Calls Tryz.prog 51 #[.pointer (some ⟨wb, 0, none⟩)] w fun e w' => e = .returned (.int .u16 0) ∧ ∃ at_, TextPost w bb S F (S.lines.take i ++ x.1 ++ S.lines.drop (i + 0)) at_ w' := by
  have c11 : w.cell? ⟨wb, 11, none⟩ = some (.pointer (some ⟨rb, 0, none⟩)) := by rw [cell_blk h]; rfl
  have C11 : Kp _ := ⟨c11⟩
  have HW : Kp _ := ⟨h⟩
  have HB : Kp _ := ⟨hB⟩
  have HR : Kp _ := ⟨hR⟩
  have HNM : Kp (regOf cv.reg = 34) := ⟨if_pos hreg⟩
  have HBG : Kp _ := ⟨hbang⟩
  have HWF : Kp _ := ⟨hwF⟩
  have HTT : Kp _ := ⟨htt⟩
  have HRest : Kp (S.marks = noMarks ∧ i ≤ S.lines.length ∧ x.1 ≠ [] ∧ isLong x.1 = false ∧ S.lines.length + x.1.length ≤ 2000 ∧ S.opens.length ≤ 3000000) := ⟨hmk, hi, hx0, hl, hlim, hop⟩
  have HX : Kp _ := ⟨hx⟩
  have hwl : wb < w.heap.size := h.lt
  have hn0 : 0 < x.1.length := List.length_pos_iff.2 hx0
  have hn1 : x.1.length ≤ 2000 := by omega
  have ht2 : tt ≤ 2000 := by omega
  have ht0 : 0 ≤ tt := by omega
  clear h hB hwF hmk hi hR hreg hbang hx hx0 hl hlim hop c11 htt
  go_enter Tryz.func51, Tryz.ntmps51
  go_wp2_with fail
  refine wp_region_pl (fun W' => W'.cell? ⟨wb, 11, none⟩ = some (.pointer (some ⟨rb, 0, none⟩)))
    (.rds [0, 1, 2, 3, 4] (.two 5 (.two 6 (.run 7 3 (.ac 10 (.ac 11 (.ac 12 .done)))) 10 (.ac 6 (.run 7 3 (.ac 11 (.ac 12 .done))))) 10 (.ac 5 (.ac 6 (.run 7 3 (.ac 11 (.ac 12 .done))))))) 13 (by kernel_rfl) (by kernel_rfl) (fun _ _ d _ _ h => by cases d <;> exact h) C11.out ?_
  iterate 5
    (refine' pl_read _ rfl rfl ?_ ?_
     rotate_left
     · (intro W' hW'; (try dsimp only at hW'); go_simp; try rfl)
     simp only [Act.put, List.setIfInBounds_toArray, List.set_cons_zero, List.set_cons_succ])
  have HD : Kp (Keep w NoB w.drew) := ⟨(Keep.refl w NoB).drew⟩
  have hA : Keep w NoB (w.drew.alloc (.cells #[.slice none 0 0, .bool false] 54)) := HD.out.alloc _
  have hz : (w.drew.alloc (.cells #[.slice none 0 0, .bool false] 54)).heap[w.heap.size]? = some (.cells #[.slice none 0 0, .bool false] 54) := heap_alloc_new w.drew _
  have hs : (w.drew.alloc (.cells #[.slice none 0 0, .bool false] 54)).heap.size = w.heap.size + 1 := by simp
  have HA : Kp _ := ⟨hA⟩
  have HZ : Kp _ := ⟨hz⟩
  have HS : Kp _ := ⟨hs⟩
  clear hA hz hs
  refine pl_two _ _ rfl rfl ?_ ?_
  go_wp2_with ((refine (reg_work (HW.out.keep HD.out fun h => h)).mono ?_)
               rintro e w' ⟨rfl, rfl⟩
               rw [HNM.out])
  refine ⟨HD.out.cell C11.out fun h => h, ?_⟩
  refine pl_two _ _ rfl rfl ?_ ?_
  go_wp2_with fail
  refine (get_ok (HR.out.keep HD.out fun _ _ h => h) (name := 34) (by omega) (by omega) (by rfl) (by rfl) HX.out).mono ?_
  rintro e w1 ⟨a, c, b, rfl, s1, k1, f1⟩
  have S1 : Kp _ := ⟨s1⟩
  have K1 : Kp (Keep w NoB w1) := ⟨HD.out.trans k1 (Fresh.refl _ _)⟩
  have K1' : Kp _ := ⟨k1⟩
  have F1 : Kp (∀ g, b = some g → w.heap.size ≤ g) := ⟨fun g hg => (f1 g hg).resolve_left fun h => h⟩
  clear s1 k1 f1
  go_wp2_with fail
  refine ⟨K1.out.cell C11.out fun h => h, ?_⟩
  iterate 3
    (refine' pl_read _ rfl rfl ?_ ?_
     rotate_left
     · (intro W' hW'; (try dsimp only at hW'); go_simp; try rfl)
     simp only [Act.put, List.setIfInBounds_toArray, List.set_cons_zero, List.set_cons_succ])
  refine pl_do _ rfl ?_
  go_wp2_with fail
  have HV : Kp (Keep w NoB (w1.alloc (.cells #[.slice none 0 0, .bool false] 54))) := ⟨K1.out.alloc _⟩
  refine ⟨HV.out.cell C11.out fun h => h, ?_⟩
  clear HV
  refine pl_do _ rfl ?_
  go_wp2_with fail
  have HV : Kp (Keep w NoB (w1.alloc (.cells #[.slice a x.1.length c, .bool x.2] 54))) := ⟨K1.out.alloc _⟩
  have X : Kp _ := ⟨heap_alloc_new w1 (.cells #[.slice a x.1.length c, .bool x.2] 54)⟩
  have SV : Kp (Sl (w1.alloc (.cells #[.slice a x.1.length c, .bool x.2] 54)) 9 1 a x.1.length c (vstr x.1) b) := ⟨S1.out.keep ((Keep.refl w1 NoB).alloc _) fun _ _ h => h⟩
  generalize hkb : w1.heap.size = kb at *
  generalize (w1.alloc (.cells #[.slice a x.1.length c, .bool x.2] 54)) = V at *
  clear S1 K1 K1' F1 HA HZ HS HD
  refine ⟨HV.out.cell C11.out fun h => h, ?_⟩
  refine pl_do _ rfl ?_
  go_wp2_with fail
  refine ⟨HV.out.cell C11.out fun h => h, ?_⟩
  refine pl_end ?_
  rotate_left
  go_wp2_with fail
  refine ⟨HA.out.cell C11.out fun h => h, ?_⟩
  refine pl_do _ rfl ?_
  go_wp2_with fail
  refine (get_ok (HR.out.keep HA.out fun _ _ h => h) (name := 34) (by omega) (by omega) (by rfl) (by rfl) HX.out).mono ?_
  rintro e w1 ⟨a, c, b, rfl, s1, k1, f1⟩
  have S1 : Kp _ := ⟨s1⟩
  have K1 : Kp (Keep w NoB w1) := ⟨HA.out.trans k1 (Fresh.refl _ _)⟩
  have K1' : Kp _ := ⟨k1⟩
  have F1 : Kp (∀ g, b = some g → w.heap.size + 1 ≤ g) := ⟨fun g hg => HS.out ▸ (f1 g hg).resolve_left fun h => h⟩
  clear s1 k1 f1
  go_wp2_with fail
  refine ⟨K1.out.cell C11.out fun h => h, ?_⟩
  iterate 3
    (refine' pl_read _ rfl rfl ?_ ?_
     rotate_left
     · (intro W' hW'; (try dsimp only at hW'); go_simp; try rfl)
     simp only [Act.put, List.setIfInBounds_toArray, List.set_cons_zero, List.set_cons_succ])
  have g1 := K1'.out.blk HZ.out fun h => h
  have e10 : w1.cell? ⟨w.heap.size, 0, none⟩ = some (.slice none 0 0) := by rw [cell_blk g1]; rfl
  have e11 : w1.cell? ⟨w.heap.size, 1, none⟩ = some (.bool false) := by rw [cell_blk g1]; rfl
  have z0 := free_blk g1 0
  have z1 := free_blk g1 1
  have G1 : Kp _ := ⟨g1⟩
  clear g1
  refine pl_do _ rfl ?_
  go_wp2_with fail
  have hg := Go.Em.heap_setCell_same (Go.Em.heap_setCell_same G1.out 0 (.slice a x.1.length c)) 1 (.bool x.2)
  have HV : Kp (Keep w NoB ((w1.setCell ⟨w.heap.size, 0, none⟩ (.slice a x.1.length c)).setCell ⟨w.heap.size, 1, none⟩ (.bool x.2))) := ⟨(K1.out.setCell (a := ⟨w.heap.size, 0, none⟩) (.inr (Nat.le_refl _)) _).setCell (a := ⟨w.heap.size, 1, none⟩) (.inr (Nat.le_refl _)) _⟩
  have hne : ∀ g, b = some g → g ≠ w.heap.size := fun g hg => by have := F1.out g hg; omega
  have SV : Kp (Sl ((w1.setCell ⟨w.heap.size, 0, none⟩ (.slice a x.1.length c)).setCell ⟨w.heap.size, 1, none⟩ (.bool x.2)) 9 1 a x.1.length c (vstr x.1) b) :=
    ⟨S1.out.move fun g hg => (Below.heap_setCell _ ⟨w.heap.size, 1, none⟩ _ g (hne g hg)).trans (Below.heap_setCell w1 ⟨w.heap.size, 0, none⟩ _ g (hne g hg))⟩
  have X : Kp _ := ⟨hg⟩
  generalize hkb : w.heap.size = kb at *
  generalize ((w1.setCell ⟨kb, 0, none⟩ (.slice a x.1.length c)).setCell ⟨kb, 1, none⟩ (.bool x.2)) = V at *
  clear S1 K1 K1' F1 e10 e11 z0 z1 G1 hne hg HZ HA
  refine ⟨HV.out.cell C11.out fun h => h, ?_⟩
  refine pl_do _ rfl ?_
  go_wp2_with fail
  refine ⟨HV.out.cell C11.out fun h => h, ?_⟩
  refine pl_end ?_
  rotate_left
  go_wp2_with fail
  refine ⟨HA.out.cell C11.out fun h => h, ?_⟩
  refine pl_do _ rfl ?_
  go_wp2_with ((refine (reg_work (HW.out.keep HA.out fun h => h)).mono ?_)
               rintro e w' ⟨rfl, rfl⟩
               rw [HNM.out])
  refine ⟨HA.out.cell C11.out fun h => h, ?_⟩
  refine pl_do _ rfl ?_
  go_wp2_with fail
  refine (get_ok (HR.out.keep HA.out fun _ _ h => h) (name := 34) (by omega) (by omega) (by rfl) (by rfl) HX.out).mono ?_
  rintro e w1 ⟨a, c, b, rfl, s1, k1, f1⟩
  have S1 : Kp _ := ⟨s1⟩
  have K1 : Kp (Keep w NoB w1) := ⟨HA.out.trans k1 (Fresh.refl _ _)⟩
  have K1' : Kp _ := ⟨k1⟩
  have F1 : Kp (∀ g, b = some g → w.heap.size + 1 ≤ g) := ⟨fun g hg => HS.out ▸ (f1 g hg).resolve_left fun h => h⟩
  clear s1 k1 f1
  go_wp2_with fail
  refine ⟨K1.out.cell C11.out fun h => h, ?_⟩
  iterate 3
    (refine' pl_read _ rfl rfl ?_ ?_
     rotate_left
     · (intro W' hW'; (try dsimp only at hW'); go_simp; try rfl)
     simp only [Act.put, List.setIfInBounds_toArray, List.set_cons_zero, List.set_cons_succ])
  have g1 := K1'.out.blk HZ.out fun h => h
  have e10 : w1.cell? ⟨w.heap.size, 0, none⟩ = some (.slice none 0 0) := by rw [cell_blk g1]; rfl
  have e11 : w1.cell? ⟨w.heap.size, 1, none⟩ = some (.bool false) := by rw [cell_blk g1]; rfl
  have z0 := free_blk g1 0
  have z1 := free_blk g1 1
  have G1 : Kp _ := ⟨g1⟩
  clear g1
  refine pl_do _ rfl ?_
  go_wp2_with fail
  have hg := Go.Em.heap_setCell_same (Go.Em.heap_setCell_same G1.out 0 (.slice a x.1.length c)) 1 (.bool x.2)
  have HV : Kp (Keep w NoB ((w1.setCell ⟨w.heap.size, 0, none⟩ (.slice a x.1.length c)).setCell ⟨w.heap.size, 1, none⟩ (.bool x.2))) := ⟨(K1.out.setCell (a := ⟨w.heap.size, 0, none⟩) (.inr (Nat.le_refl _)) _).setCell (a := ⟨w.heap.size, 1, none⟩) (.inr (Nat.le_refl _)) _⟩
  have hne : ∀ g, b = some g → g ≠ w.heap.size := fun g hg => by have := F1.out g hg; omega
  have SV : Kp (Sl ((w1.setCell ⟨w.heap.size, 0, none⟩ (.slice a x.1.length c)).setCell ⟨w.heap.size, 1, none⟩ (.bool x.2)) 9 1 a x.1.length c (vstr x.1) b) :=
    ⟨S1.out.move fun g hg => (Below.heap_setCell _ ⟨w.heap.size, 1, none⟩ _ g (hne g hg)).trans (Below.heap_setCell w1 ⟨w.heap.size, 0, none⟩ _ g (hne g hg))⟩
  have X : Kp _ := ⟨hg⟩
  generalize hkb : w.heap.size = kb at *
  generalize ((w1.setCell ⟨kb, 0, none⟩ (.slice a x.1.length c)).setCell ⟨kb, 1, none⟩ (.bool x.2)) = V at *
  clear S1 K1 K1' F1 e10 e11 z0 z1 G1 hne hg HZ HA
  refine ⟨HV.out.cell C11.out fun h => h, ?_⟩
  refine pl_do _ rfl ?_
  go_wp2_with fail
  refine ⟨HV.out.cell C11.out fun h => h, ?_⟩
  refine pl_end ?_
  all_goals
    simp only [List.drop_succ_cons, List.drop_nil]
    have d0 : V.cell? ⟨kb, 0, none⟩ = some (.slice a x.1.length c) := by rw [cell_blk X.out]; rfl
    have HWV : Kp _ := ⟨HW.out.keep HV.out fun h => h⟩
    have c13 : V.cell? ⟨wb, 13, none⟩ = some (.int .i64 tt) := by rw [cell_blk HWV.out]; rfl
    have c2 : V.cell? ⟨wb, 2, none⟩ = some (.bool false) := by rw [cell_blk HWV.out]; show some (Value.bool cv.bang) = _; rw [HBG.out]
    go_wp2_with fail
    obtain ⟨hmk, hi, hx0, hl, hlim, hop⟩ := HRest.out
    refine (put_work HWV.out (HB.out.keep HV.out fun _ _ h => h) HWF.out hmk (i := i) (n := 0) (by rw [HTT.out]) rfl (by omega) (Rd.of_sl SV.out (vstr_one _)) SV.out.le SV.out.max (by omega) (by omega) hl (by omega) (by omega) hop).mono ?_
    rintro e w3 ⟨rfl, hp⟩
    have HP : Kp _ := ⟨hp.pre HV.out⟩
    clear hp
    go_wp2_with fail
    go_ret
    exact ⟨rfl, _, HP.out⟩

end Go.Proofs

/- The walk of buf.Move (no marks). -/
namespace Go.Proofs
open Go.RowKit Go.Em

theorem slice_from (ad : Addr) {n c k : Nat} (h1 : k ≤ n) (h2 : n ≤ c) (hk : k < c) (W : World) {x : Int} (hx : x = (k : Int)) :
    (Instr.slice 22 (.slice (some ad) n c) (some (.int .i64 x)) none none).run Tryz.prog W = .ok (.slice (some (ad.add k)) (n - k) (c - k)) W := by
  subst hx
  have hc : ¬ c = k := by omega
  go_simp
theorem slice_upto (ad : Addr) {n c k : Nat} (h1 : k ≤ n) (h2 : n ≤ c) (W : World) {x : Int} (hx : x = (k : Int)) :
    (Instr.slice 22 (.slice (some ad) n c) none (some (.int .i64 x)) none).run Tryz.prog W = .ok (.slice (some ad) k c) W := by
  subst hx
  go_simp
  intro h
  omega

/-- Some lines, turned at a place. -/
def turned (l : List ByteArray) (p q cut : Nat) : List ByteArray := l.take p ++ (((l.drop p).take (q - p)).drop cut ++ ((l.drop p).take (q - p)).take cut) ++ l.drop q

set_option maxRecDepth 100000 in
theorem move_none {w : World} {bb : Nat} {S : BS} {F : Blocks} (h : BMem w bb S F) {i n : Nat} {fr tt d : Int} (hfr : fr = (i : Int) + 1) (htt : tt = (i : Int) + (n : Int)) (hn : 1 ≤ n) (hi : i + n ≤ S.lines.length) (hlen : S.lines.length ≤ 2000) (hd : d = (i : Int) ∨ d = (i : Int) + (n : Int)) :
    Calls Tryz.prog 84 #[.pointer (some ⟨bb, 0, none⟩), .int .i64 fr, .int .i64 tt, .int .i64 d] w fun e w' => e = .returned (.int .u16 0) ∧ Keep w NoB w' := by
  obtain ⟨tb, kb, oa, on, oc, q1, c0, q4, q6, q7, qf, ⟨FT, hT, -, -⟩, -⟩ := h.cells
  have HT : Kp _ := ⟨hT⟩
  have HB : Kp _ := ⟨h⟩
  have C0 : Kp _ := ⟨c0⟩
  have l1 : ¬ fr < 1 := by omega
  have l2 : ¬ tt < fr := by omega
  have l3 : ¬ (S.lines.length : Int) < tt := by omega
  have l4 : ¬ d < 0 := by omega
  have l5 : ¬ (S.lines.length : Int) < d := by omega
  have l6 : tt ≤ 2000 := by omega
  have l7 : fr ≤ 2000 := by omega
  have l8 : ¬ (fr ≤ d ∧ d < tt) := by omega
  have hd2 : (d = fr - 1 ∧ ¬ fr ≤ d) ∨ (¬ d = fr - 1 ∧ d = tt ∧ ¬ d < tt ∧ fr ≤ d) := by omega
  clear q1 q4 q6 q7 qf hT h hi hlen hd hfr htt hn
  rcases hd2 with ⟨h1, h2⟩ | ⟨h1, h2, h3, h4⟩
  · go_enter Tryz.func84, Tryz.ntmps84
    go_wp2_with fail
    refine (len_text HT.out).mono ?_
    rintro e w' ⟨rfl, q, rfl⟩
    have K1 : Kp (Keep w NoB (w.drewN q)) := ⟨(Keep.refl w NoB).drewN q⟩
    have d0 := K1.out.cell C0.out fun h => h
    generalize w.drewN q = w1 at *
    go_wp2_with fail
    refine (len_text (HT.out.keep K1.out fun _ _ h => h)).mono ?_
    rintro e w' ⟨rfl, q2, rfl⟩
    go_wp2_with fail
    go_ret
    exact ⟨rfl, K1.out.drewN q2⟩
  · go_enter Tryz.func84, Tryz.ntmps84
    go_wp2_with fail
    refine (len_text HT.out).mono ?_
    rintro e w' ⟨rfl, q, rfl⟩
    have K1 : Kp (Keep w NoB (w.drewN q)) := ⟨(Keep.refl w NoB).drewN q⟩
    have d0 := K1.out.cell C0.out fun h => h
    generalize w.drewN q = w1 at *
    go_wp2_with fail
    refine (len_text (HT.out.keep K1.out fun _ _ h => h)).mono ?_
    rintro e w' ⟨rfl, q2, rfl⟩
    go_wp2_with fail
    go_ret
    exact ⟨rfl, K1.out.drewN q2⟩

set_option maxRecDepth 100000 in
set_option maxHeartbeats 4000000 in
theorem move_buf {w : World} {bb : Nat} {S : BS} {F : Blocks} (h : BMem w bb S F) (hmk : S.marks = noMarks) {i n p q cut : Nat} {fr tt d : Int} (hfr : fr = (i : Int) + 1) (htt : tt = (i : Int) + (n : Int)) (hn : 1 ≤ n) (hi : i + n ≤ S.lines.length) (hlen : S.lines.length ≤ 2000) (hop : S.opens.length ≤ 3000000)
    (hd : (0 ≤ d ∧ d < (i : Int) ∧ (p : Int) = d ∧ q = i + n ∧ cut + p = i) ∨ ((i : Int) + (n : Int) < d ∧ d ≤ (S.lines.length : Int) ∧ p = i ∧ (q : Int) = d ∧ cut = n)) :
    Calls Tryz.prog 84 #[.pointer (some ⟨bb, 0, none⟩), .int .i64 fr, .int .i64 tt, .int .i64 d] w fun e w' => e = .returned (.int .u16 0) ∧
      ∃ S' : BS, BPost w F w' bb S' ∧ S'.lines = turned S.lines p q cut ∧ S'.at_ = S.at_ ∧ S'.marks = S.marks ∧ S'.opens.length = S.opens.length + 3 := by
  obtain ⟨tb, kb, oa, on, oc, q1, c0, q4, q6, q7, qf, ⟨FT, hT, -, -⟩, -⟩ := h.cells
  have HT : Kp _ := ⟨hT⟩
  have HB : Kp _ := ⟨h⟩
  have C0 : Kp _ := ⟨c0⟩
  have HMK : Kp _ := ⟨hmk⟩
  have HOP : Kp _ := ⟨hop⟩
  have HFR : Kp _ := ⟨hfr⟩
  have HTT : Kp _ := ⟨htt⟩
  have HLEN : Kp _ := ⟨hlen⟩
  have HLT : Kp _ := ⟨h.lt⟩
  have l1 : ¬ fr < 1 := by omega
  have l2 : ¬ tt < fr := by omega
  have l3 : ¬ (S.lines.length : Int) < tt := by omega
  have l4 : ¬ d < 0 := by omega
  have l5 : ¬ (S.lines.length : Int) < d := by omega
  have l6 : tt ≤ 2000 := by omega
  have l7 : fr ≤ 2000 := by omega
  have l8 : d ≤ 2000 := by omega
  have HPQ : Kp (p < q ∧ q ≤ S.lines.length ∧ 1 ≤ cut ∧ cut < q - p ∧ min fr (d + 1) = (p : Int) + 1 ∧ max tt d = (q : Int)) := ⟨by omega⟩
  have HD : Kp (d ≤ 100000 ∧ 0 ≤ d ∧ (d < fr - 1 ∨ tt < d) ∧ 1 ≤ fr ∧ fr ≤ tt) := ⟨by omega⟩
  have hd2 : (d < fr - 1 ∧ ¬ fr ≤ d ∧ ¬ d = fr - 1 ∧ ¬ d = tt ∧ ¬ tt < d ∧ fr - ((p : Int) + 1) = (cut : Int)) ∨ (tt < d ∧ fr ≤ d ∧ ¬ d < tt ∧ ¬ d = fr - 1 ∧ ¬ d = tt ∧ tt - ((p : Int) + 1) + 1 = (cut : Int)) := by omega
  clear q1 q4 q6 q7 qf hT h hi hlen hd hfr htt hn hmk hop
  rcases hd2 with ⟨h1, h2, h3, h4, h5, h6⟩ | ⟨h1, h2, h3, h4, h5, h6⟩
  all_goals
    have HCUT : Kp _ := ⟨h6⟩
    clear h6
    go_enter Tryz.func84, Tryz.ntmps84
    go_wp2_with fail
    refine (len_text HT.out).mono ?_
    rintro e w' ⟨rfl, qq, rfl⟩
    have K1 : Kp (Keep w NoB (w.drewN qq)) := ⟨(Keep.refl w NoB).drewN qq⟩
    have d0 := K1.out.cell C0.out fun h => h
    generalize w.drewN qq = w1 at *
    go_wp2_with fail
    refine (len_text (HT.out.keep K1.out fun _ _ h => h)).mono ?_
    rintro e w' ⟨rfl, qq, rfl⟩
    have K2 : Kp (Keep w NoB (w1.drewN qq)) := ⟨K1.out.drewN qq⟩
    have e0 := K2.out.cell C0.out fun h => h
    generalize w1.drewN qq = w2 at *
    go_wp2_with fail
    rw [HPQ.out.2.2.2.2.1, HPQ.out.2.2.2.2.2, show (p : Int) + 1 - 1 = (p : Int) by omega, show (q : Int) - ((p : Int) + 1) + 1 = ((q - p : Nat) : Int) by have := HPQ.out.1; omega]
    refine (part_true (HT.out.keep K2.out fun _ _ h => h) (by have := HPQ.out; omega)).mono ?_
    rintro e w3 ⟨pa, pc, pb, rfl, s3, k3, f3⟩
    have K3 : Kp (Keep w NoB w3) := ⟨K2.out.trans k3 (Fresh.refl _ _)⟩
    have F3 : Kp (∀ g, pb = some g → w.heap.size ≤ g) := ⟨fun g hg => Nat.le_trans K2.out.size ((f3 g hg).resolve_left fun h => h)⟩
    obtain ⟨g, hg, hsa⟩ := s3.nonnil (by have := HPQ.out; omega)
    subst hsa
    subst hg
    have S3 : Kp _ := ⟨s3⟩
    have hpl : (p : Int) ≤ 2000 := by have := HPQ.out; have := HLEN.out; omega
    clear s3 k3 f3
    go_wp2_with fail
    rw [HCUT.out]
    have hsc := S3.out.le
    have hlen3 : (((S.lines.drop p).take (q - p)).length) = q - p := by have := S3.out.len; rw [vstr_length, Nat.mul_one] at this; exact this
    have hpq := HPQ.out
    have hcq : cut ≤ q - p := by omega
    have sl1 : ∀ W, (Instr.slice 22 (.slice (some ⟨g, 0, none⟩) (q - p) pc) (some (.int .i64 (cut : Int))) none none).run Tryz.prog W = .ok (.slice (some ⟨g, cut, none⟩) (q - p - cut) (pc - cut)) W := fun W => by
      have := slice_from ⟨g, 0, none⟩ (n := q - p) (c := pc) (k := cut) hcq hsc (by omega) W rfl
      rw [this]
      simp [Addr.add]
      omega
    have sl2 : ∀ W, (Instr.slice 22 (.slice (some ⟨g, 0, none⟩) (q - p) pc) none (some (.int .i64 (cut : Int))) none).run Tryz.prog W = .ok (.slice (some ⟨g, 0, none⟩) cut pc) W := fun W => slice_upto ⟨g, 0, none⟩ hcq hsc W rfl
    have HLEN3 : Kp _ := ⟨hlen3⟩
    clear hpq hlen3
    refine wp_region_pl (fun _ => True) (.run 0 10 (.ac 10 (.ac 11 (.ac 12 .done)))) 13 (by kernel_rfl) (by kernel_rfl) (fun _ _ d _ _ h => by cases d <;> exact h) trivial ?_
    iterate 6
      (refine' pl_read _ rfl rfl ?_ ?_
       rotate_left
       · (intro W' hW'; (try dsimp only at hW'); go_simp; try rfl)
       simp only [Act.put, List.setIfInBounds_toArray, List.set_cons_zero, List.set_cons_succ])
    refine' pl_read (v := .slice (some ⟨g, cut, none⟩) (q - p - cut) (pc - cut)) _ rfl rfl ?_ ?_
    · intro W' hW'
      clear hW'
      have hs := sl1 W'
      go_simp
      try rfl
    simp only [Act.put, List.setIfInBounds_toArray, List.set_cons_zero, List.set_cons_succ]
    iterate 2
      (refine' pl_read _ rfl rfl ?_ ?_
       rotate_left
       · (intro W' hW'; (try dsimp only at hW'); go_simp; try rfl)
       simp only [Act.put, List.setIfInBounds_toArray, List.set_cons_zero, List.set_cons_succ])
    refine' pl_read (v := .slice (some ⟨g, 0, none⟩) cut pc) _ rfl rfl ?_ ?_
    · intro W' hW'
      clear hW'
      have hs := sl2 W'
      go_simp
      try rfl
    simp only [Act.put, List.setIfInBounds_toArray, List.set_cons_zero, List.set_cons_succ]
    refine pl_do _ rfl ?_
    go_wp2_with fail
    have hxv : (w3.alloc (.cells #[.slice (some ⟨g, cut, none⟩) (q - p - cut) (pc - cut), .slice (some ⟨g, 0, none⟩) cut pc] 22)).drew.heap[w3.heap.size]? = some (.cells #[.slice (some ⟨g, cut, none⟩) (q - p - cut) (pc - cut), .slice (some ⟨g, 0, none⟩) cut pc] 22 (0, 0)) := heap_alloc_new w3 _
    have hkv : Keep w3 NoB (w3.alloc (.cells #[.slice (some ⟨g, cut, none⟩) (q - p - cut) (pc - cut), .slice (some ⟨g, 0, none⟩) cut pc] 22)).drew := ((Keep.refl w3 NoB).alloc _).drew
    generalize (w3.alloc (.cells #[.slice (some ⟨g, cut, none⟩) (q - p - cut) (pc - cut), .slice (some ⟨g, 0, none⟩) cut pc] 22)).drew = V at *
    have hpq := HPQ.out
    have HKV : Kp (Keep w NoB V) := ⟨K3.out.trans hkv (Fresh.refl _ _)⟩
    obtain ⟨ad1, e1, r1⟩ := rd_sub (Rd.of_sl (S3.out.keep hkv fun _ _ h => h) (vstr_one _)) cut (q - p - cut) (by omega) (by omega)
    cases e1
    obtain ⟨ad2, e2, r2⟩ := rd_sub (Rd.of_sl (S3.out.keep hkv fun _ _ h => h) (vstr_one _)) 0 cut (by omega) (by omega)
    cases e2
    have ht1 : ((((S.lines.drop p).take (q - p)).drop cut).take (q - p - cut)) = ((S.lines.drop p).take (q - p)).drop cut := List.take_of_length_le (by rw [List.length_drop, HLEN3.out]; omega)
    rw [ht1, show ((⟨g, 0, none⟩ : Addr).add cut) = ⟨g, cut, none⟩ by simp [Addr.add]; omega] at r1
    rw [List.drop_zero, show ((⟨g, 0, none⟩ : Addr).add 0) = ⟨g, 0, none⟩ by simp [Addr.add]] at r2
    have R1 : Kp _ := ⟨r1⟩
    have R2 : Kp _ := ⟨r2⟩
    have HXV : Kp _ := ⟨hxv⟩
    clear hxv hkv hpq r1 r2 ht1 sl1 sl2
    refine ⟨trivial, ?_⟩
    refine pl_do _ rfl ?_
    go_wp2_with fail
    refine (concat_str HXV.out R1.out R2.out (by have := HPQ.out; have := HLEN.out; omega) (by have := HPQ.out; have := HLEN.out; omega) (by have := HPQ.out; omega)).mono ?_
    rintro e w4 ⟨na, nc, nb, rfl, s4, k4, f4⟩
    have S4 : Kp _ := ⟨s4⟩
    have K4 : Kp (Keep w NoB w4) := ⟨HKV.out.trans k4 (Fresh.refl _ _)⟩
    have F4 : Kp (∀ g, nb = some g → w.heap.size ≤ g) := ⟨fun g hg => Nat.le_trans HKV.out.size (f4 g hg)⟩
    clear s4 k4 f4
    go_wp2_with fail
    refine ⟨trivial, ?_⟩
    refine pl_do _ rfl ?_
    go_wp2_with fail
    have s4 := S4.out
    rw [show q - p - cut + cut = q - p by have := HPQ.out; omega] at s4
    have hfin := change_buf (HB.out.keep K4.out fun _ _ h => h) (i := p) (n := q - p) rfl rfl (by have := HPQ.out; omega) (Rd.of_sl s4 (vstr_one _)) s4.le s4.max (fun ad ha hF => by
      rcases s4.at_ with ⟨_, h, _⟩ | ⟨g', cur, hg', h, _⟩
      · rw [ha] at h; cases h
      · rw [ha] at h; cases h
        have := F4.out _ hg'
        have := HLT.out _ hF
        simp at this
        omega) (by have := HPQ.out; have := HLEN.out; omega) HOP.out
    clear s4
    refine hfin.mono ?_
    clear hfin
    rintro e w5 ⟨rfl, F', pa, pc2, pb, b5, k5, f5, -⟩
    rw [show p + (q - p) = q by have := HPQ.out; omega] at b5
    have B5 : Kp _ := ⟨b5⟩
    have K5 : Kp (Keep w F w5) := ⟨(K4.out.mono fun _ h => h.elim).trans k5 (Fresh.refl _ _)⟩
    have F5 : Kp (Fresh w F F') := ⟨fun b hb => (f5 b hb).imp id fun h => Nat.le_trans K4.out.size h⟩
    obtain ⟨tb2, kb2, oa2, on2, oc2, -, -, c4, -, -, -, -, FK2, hM, -⟩ := b5.cells
    have HM : Kp (KMem w5 kb2 noMarks FK2) := ⟨by have := hM; rw [show (BS.marks _) = S.marks from rfl, HMK.out] at this; exact this⟩
    clear b5 k5 f5 hM
    go_wp2_with fail
    refine ⟨trivial, ?_⟩
    refine pl_end ?_
    simp only [List.drop_succ_cons, List.drop_nil]
    go_wp2_with fail
    refine (moveM_none HM.out (by have := HD.out; omega) (by have := HD.out; omega) (by omega) (by have := HD.out; omega) (by have := HD.out; omega) (by have := HD.out; omega)).mono ?_
    rintro e w6 ⟨rfl, k6⟩
    have B6 : Kp _ := ⟨B5.out.keep k6 fun _ _ h => h⟩
    have K6 : Kp (Keep w F w6) := ⟨K5.out.trans (k6.mono (G := F) fun _ h => h.elim) (Fresh.refl _ _)⟩
    clear k6 c4
    go_wp2_with fail
    go_ret
    exact ⟨rfl, _, ⟨F', B6.out, K6.out, F5.out⟩, rfl, rfl, rfl, by simp⟩

end Go.Proofs

/- The walks of work.copy and of work.move. -/
namespace Go.Proofs
open Go.RowKit Go.Em

set_option maxRecDepth 100000 in
set_option maxHeartbeats 4000000 in
theorem copy_work {w : World} {wb : Nat} {cv : CV} {bb rb : Nat} {d : Int} {S : BS} {F : Blocks} {i n j : Nat} (h : WMem w wb cv bb rb ((i : Int) + 1) ((i : Int) + (n : Int)) d) (hj : d = (j : Int)) (hjl : j ≤ S.lines.length) (hB : BMem w bb S F) (hwF : ¬ F wb) (hmk : S.marks = noMarks) (hi : i + n ≤ S.lines.length)
    (hn : 0 < n) (hl : isLong ((S.lines.drop i).take n) = false) (hlim : S.lines.length + n ≤ 2000) (hop : S.opens.length ≤ 3000000) :
    Calls Tryz.prog 49 #[.pointer (some ⟨wb, 0, none⟩)] w fun e w' => e = .returned (.int .u16 0) ∧ ∃ at_, TextPost w bb S F (S.lines.take j ++ (S.lines.drop i).take n ++ S.lines.drop (j + 0)) at_ w' := by
  obtain ⟨tb, kb, oa, on, oc, q1, c0, q4, q6, q7, qf, ⟨FT, hT, -, -⟩, -⟩ := hB.cells
  have c10 : w.cell? ⟨wb, 10, none⟩ = some (.pointer (some ⟨bb, 0, none⟩)) := by rw [cell_blk h]; rfl
  have c14 : w.cell? ⟨wb, 14, none⟩ = some (.int .i64 d) := by rw [cell_blk h]; rfl
  have HT : Kp _ := ⟨hT⟩
  have HW : Kp _ := ⟨h⟩
  have HB : Kp _ := ⟨hB⟩
  have HWF : Kp _ := ⟨hwF⟩
  have HJ : Kp _ := ⟨hj⟩
  have HTr : Kp (w.cell? ⟨wb, 14, none⟩ = some (.int .i64 d) ∧ w.cell? ⟨wb, 10, none⟩ = some (.pointer (some ⟨bb, 0, none⟩)) ∧ w.cell? ⟨bb, 0, none⟩ = some (.pointer (some ⟨tb, 0, none⟩))) := ⟨c14, c10, c0⟩
  have HRest : Kp (S.marks = noMarks ∧ j ≤ S.lines.length ∧ i + n ≤ S.lines.length ∧ 0 < n ∧ isLong ((S.lines.drop i).take n) = false ∧ S.lines.length + n ≤ 2000 ∧ S.opens.length ≤ 3000000) := ⟨hmk, hjl, hi, hn, hl, hlim, hop⟩
  have HLN : Kp (((S.lines.drop i).take n).length = n) := ⟨by rw [List.length_take, List.length_drop]; omega⟩
  have h1 : ¬ d < 0 := by omega
  have h2 : ¬ (S.lines.length : Int) < d := by omega
  have h3 : d ≤ 2000 := by omega
  have h4 : (n : Int) ≤ 2000 := by omega
  clear h hj hjl hB hwF hmk hi hn hl hlim hop hT c10 c14 q1 c0 q4 q6 q7 qf
  go_enter Tryz.func49, Tryz.ntmps49
  go_wp2_with fail
  refine wp_region_pl (fun W' => W'.cell? ⟨wb, 14, none⟩ = some (.int .i64 d) ∧ W'.cell? ⟨wb, 10, none⟩ = some (.pointer (some ⟨bb, 0, none⟩)) ∧ W'.cell? ⟨bb, 0, none⟩ = some (.pointer (some ⟨tb, 0, none⟩)))
    (.run 0 17 (.ac 17 (.run 18 2 .done))) 20 (by kernel_rfl) (by kernel_rfl) (fun _ _ d _ _ h => by cases d <;> exact h) HTr.out ?_
  iterate 6
    (refine' pl_read _ rfl rfl ?_ ?_
     rotate_left
     · (intro W' hW'; (try dsimp only at hW'); obtain ⟨q0, q1, q2⟩ := hW'; go_simp; try rfl)
     simp only [Act.put, List.setIfInBounds_toArray, List.set_cons_zero, List.set_cons_succ])
  have e : decide (d < 0) = false := decide_eq_false (by omega)
  simp only [e]
  clear e
  iterate 11
    (refine' pl_read _ rfl rfl ?_ ?_
     rotate_left
     · (intro W' hW'; (try dsimp only at hW'); obtain ⟨q0, q1, q2⟩ := hW'; go_simp; try rfl)
     simp only [Act.put, List.setIfInBounds_toArray, List.set_cons_zero, List.set_cons_succ])
  refine pl_do _ rfl ?_
  go_wp2_with fail
  refine (len_text (HT.out.keep (Keep.refl w NoB).drew fun _ _ h => h)).mono ?_
  rintro e w' ⟨rfl, q, rfl⟩
  go_wp2_with fail
  have HK : Kp (Keep w NoB (w.drewN (1 + q))) := ⟨(Keep.refl w NoB).drewN _⟩
  generalize w.drewN (1 + q) = W at *
  have HTW : Kp (W.cell? ⟨wb, 14, none⟩ = some (.int .i64 d) ∧ W.cell? ⟨wb, 10, none⟩ = some (.pointer (some ⟨bb, 0, none⟩)) ∧ W.cell? ⟨bb, 0, none⟩ = some (.pointer (some ⟨tb, 0, none⟩))) := ⟨HK.out.cell HTr.out.1 fun h => h, HK.out.cell HTr.out.2.1 fun h => h, HK.out.cell HTr.out.2.2 fun h => h⟩
  refine ⟨HTW.out, ?_⟩
  iterate 1
    (refine' pl_read _ rfl rfl ?_ ?_
     rotate_left
     · (intro W' hW'; (try dsimp only at hW'); go_simp; try rfl)
     simp only [Act.put, List.setIfInBounds_toArray, List.set_cons_zero, List.set_cons_succ])
  have e : decide ((S.lines.length : Int) < d) = false := decide_eq_false (by omega)
  simp only [e]
  clear e
  iterate 1
    (refine' pl_read _ rfl rfl ?_ ?_
     rotate_left
     · (intro W' hW'; (try dsimp only at hW'); go_simp; try rfl)
     simp only [Act.put, List.setIfInBounds_toArray, List.set_cons_zero, List.set_cons_succ])
  refine pl_end ?_
  simp only [List.drop_succ_cons, List.drop_nil]
  go_wp2_with fail
  refine (lines_work (HW.out.keep HK.out fun h => h) (HB.out.keep HK.out fun _ _ h => h) HRest.out.2.2.1 (by have := HRest.out.2.2.2.2.2.1; omega)).mono ?_
  rintro e w1 ⟨sa, sc, sb, rfl, s1, k1, f1⟩
  have S1 : Kp _ := ⟨s1⟩
  have K1 : Kp (Keep w NoB w1) := ⟨HK.out.trans k1 (Fresh.refl _ _)⟩
  clear s1 k1 f1
  go_wp2_with fail
  have hT1 : w1.cell? ⟨wb, 14, none⟩ = some (.int .i64 d) := K1.out.cell HTr.out.1 fun h => h
  have HT1 : Kp _ := ⟨hT1⟩
  refine wp_region_pl (fun W' => W'.cell? ⟨wb, 14, none⟩ = some (.int .i64 d))
    (.run 0 14 (.ac 14 (.ac 15 .done))) 16 (by kernel_rfl) (by kernel_rfl) (fun _ _ d _ _ h => by cases d <;> exact h) hT1 ?_
  clear hT1
  iterate 14
    (refine' pl_read _ rfl rfl ?_ ?_
     rotate_left
     · (intro W' hW'; (try dsimp only at hW'); go_simp; try rfl)
     simp only [Act.put, List.setIfInBounds_toArray, List.set_cons_zero, List.set_cons_succ])
  refine pl_do _ rfl ?_
  go_wp2_with fail
  obtain ⟨hmk, hjl, hi, hn, hl, hlim, hop⟩ := HRest.out
  have HKD : Kp (Keep w NoB w1.drew) := ⟨K1.out.drew⟩
  refine (put_work (HW.out.keep HKD.out fun h => h) (HB.out.keep HKD.out fun _ _ h => h) HWF.out hmk (i := j) (n := 0) (by rw [HJ.out]) rfl (by omega) (Rd.of_sl (S1.out.keep (Keep.refl w1 NoB).drew fun _ _ h => h) (vstr_one _)) S1.out.le S1.out.max (by omega) (by omega) hl (by omega) (by omega) hop).mono ?_
  rintro e w3 ⟨rfl, hp⟩
  have HP : Kp _ := ⟨hp.pre HKD.out⟩
  have K3 : Kp (w3.cell? ⟨wb, 14, none⟩ = some (.int .i64 d)) := ⟨by
    obtain ⟨S2, ⟨F2, b2, k2, f2⟩, q⟩ := HP.out
    exact k2.cell HTr.out.1 HWF.out⟩
  clear hp
  go_wp2_with fail
  refine ⟨K3.out, ?_⟩
  refine pl_do _ rfl ?_
  go_wp2_with fail
  refine ⟨K3.out, ?_⟩
  refine pl_end ?_
  simp only [List.drop_succ_cons, List.drop_nil]
  go_wp2_with fail
  go_ret
  exact ⟨rfl, _, HP.out⟩

set_option maxRecDepth 100000 in
set_option maxHeartbeats 4000000 in
theorem move_work {w : World} {wb : Nat} {cv : CV} {bb rb : Nat} {fr tt d : Int} {F : Blocks} {Q : BS → Prop} (h : WMem w wb cv bb rb fr tt d) (hwF : ¬ F wb) (h1 : 0 ≤ fr) (h2 : fr ≤ 2000) (h3 : 0 ≤ tt) (h4 : tt ≤ 2000) (h5 : 0 ≤ d) (h6 : d ≤ 2000)
    (hm : Calls Tryz.prog 84 #[.pointer (some ⟨bb, 0, none⟩), .int .i64 fr, .int .i64 tt, .int .i64 d] w.drew fun e w' => e = .returned (.int .u16 0) ∧ ∃ S', BPost w.drew F w' bb S' ∧ Q S') :
    Calls Tryz.prog 48 #[.pointer (some ⟨wb, 0, none⟩)] w fun e w' => e = .returned (.int .u16 0) ∧ ∃ (S' : BS) (at_ : Int), BPost w F w' bb { S' with at_ := at_ } ∧ Q S' := by
  have c10 : w.cell? ⟨wb, 10, none⟩ = some (.pointer (some ⟨bb, 0, none⟩)) := by rw [cell_blk h]; rfl
  have c12 : w.cell? ⟨wb, 12, none⟩ = some (.int .i64 fr) := by rw [cell_blk h]; rfl
  have c13 : w.cell? ⟨wb, 13, none⟩ = some (.int .i64 tt) := by rw [cell_blk h]; rfl
  have c14 : w.cell? ⟨wb, 14, none⟩ = some (.int .i64 d) := by rw [cell_blk h]; rfl
  have HT : Kp (w.cell? ⟨wb, 10, none⟩ = some (.pointer (some ⟨bb, 0, none⟩)) ∧ w.cell? ⟨wb, 12, none⟩ = some (.int .i64 fr) ∧ w.cell? ⟨wb, 13, none⟩ = some (.int .i64 tt) ∧ w.cell? ⟨wb, 14, none⟩ = some (.int .i64 d)) := ⟨c10, c12, c13, c14⟩
  have HWF : Kp _ := ⟨hwF⟩
  have HM : Kp _ := ⟨hm⟩
  clear c10 c12 c13 c14 hm hwF h
  go_enter Tryz.func48, Tryz.ntmps48
  go_wp2_with fail
  refine wp_region_pl (fun W' => W'.cell? ⟨wb, 10, none⟩ = some (.pointer (some ⟨bb, 0, none⟩)) ∧ W'.cell? ⟨wb, 12, none⟩ = some (.int .i64 fr) ∧ W'.cell? ⟨wb, 13, none⟩ = some (.int .i64 tt) ∧ W'.cell? ⟨wb, 14, none⟩ = some (.int .i64 d))
    (.run 0 16 (.ac 16 (.ac 17 .done))) 18 (by kernel_rfl) (by kernel_rfl) (fun _ _ d _ _ h => by cases d <;> exact h) HT.out ?_
  iterate 16
    (refine' pl_read _ rfl rfl ?_ ?_
     rotate_left
     · (intro W' hW'; (try dsimp only at hW'); obtain ⟨q0, q1, q2, q3⟩ := hW'; go_simp; try rfl)
     simp only [Act.put, List.setIfInBounds_toArray, List.set_cons_zero, List.set_cons_succ])
  refine pl_do _ rfl ?_
  go_wp2_with fail
  refine HM.out.mono ?_
  rintro e w1 ⟨rfl, S1, ⟨F1, b1, k1, f1⟩, hq⟩
  have B1 : Kp _ := ⟨b1⟩
  have K1 : Kp (Keep w F w1) := ⟨((Keep.refl w F).drew).trans k1 (Fresh.refl _ _)⟩
  have F1' : Kp (Fresh w F F1) := ⟨f1⟩
  have HQ : Kp _ := ⟨hq⟩
  have T1 : Kp (w1.cell? ⟨wb, 10, none⟩ = some (.pointer (some ⟨bb, 0, none⟩)) ∧ w1.cell? ⟨wb, 12, none⟩ = some (.int .i64 fr) ∧ w1.cell? ⟨wb, 13, none⟩ = some (.int .i64 tt) ∧ w1.cell? ⟨wb, 14, none⟩ = some (.int .i64 d)) :=
    ⟨K1.out.cell HT.out.1 HWF.out, K1.out.cell HT.out.2.1 HWF.out, K1.out.cell HT.out.2.2.1 HWF.out, K1.out.cell HT.out.2.2.2 HWF.out⟩
  clear b1 k1 f1 hq HM
  go_wp2_with fail
  refine ⟨T1.out, ?_⟩
  refine pl_do _ rfl ?_
  go_wp2_with fail
  refine ⟨T1.out, ?_⟩
  refine pl_end ?_
  simp only [List.drop_succ_cons, List.drop_nil]
  go_wp2_with fail
  refine wp_region_pl (fun W' => W'.cell? ⟨wb, 10, none⟩ = some (.pointer (some ⟨bb, 0, none⟩)) ∧ W'.cell? ⟨wb, 12, none⟩ = some (.int .i64 fr) ∧ W'.cell? ⟨wb, 13, none⟩ = some (.int .i64 tt) ∧ W'.cell? ⟨wb, 14, none⟩ = some (.int .i64 d))
    (.run 0 9 (.ac 9 .done)) 10 (by kernel_rfl) (by kernel_rfl) (fun _ _ d _ _ h => by cases d <;> exact h) T1.out ?_
  iterate 9
    (refine' pl_read _ rfl rfl ?_ ?_
     rotate_left
     · (intro W' hW'; (try dsimp only at hW'); obtain ⟨q0, q1, q2, q3⟩ := hW'; go_simp; try rfl)
     simp only [Act.put, List.setIfInBounds_toArray, List.set_cons_zero, List.set_cons_succ])
  refine pl_do _ rfl ?_
  go_wp2_with fail
  have T2 : Kp (w1.drew.cell? ⟨wb, 10, none⟩ = some (.pointer (some ⟨bb, 0, none⟩)) ∧ w1.drew.cell? ⟨wb, 12, none⟩ = some (.int .i64 fr) ∧ w1.drew.cell? ⟨wb, 13, none⟩ = some (.int .i64 tt) ∧ w1.drew.cell? ⟨wb, 14, none⟩ = some (.int .i64 d)) := ⟨T1.out⟩
  have B2 : Kp _ := ⟨B1.out.keep (Keep.refl w1 NoB).drew fun _ _ h => h⟩
  have K2 : Kp (Keep w F w1.drew) := ⟨K1.out.drew⟩
  clear B1 K1 T1
  generalize w1.drew = V at *
  refine ⟨T2.out, ?_⟩
  refine pl_end ?_
  simp only [List.drop_succ_cons, List.drop_nil]
  by_cases hdf : d < fr
  · go_wp2_with fail
    refine wp_region_pl (fun W' => W'.cell? ⟨wb, 10, none⟩ = some (.pointer (some ⟨bb, 0, none⟩)) ∧ W'.cell? ⟨wb, 12, none⟩ = some (.int .i64 fr) ∧ W'.cell? ⟨wb, 13, none⟩ = some (.int .i64 tt) ∧ W'.cell? ⟨wb, 14, none⟩ = some (.int .i64 d))
      (.run 0 19 (.ac 19 .done)) 20 (by kernel_rfl) (by kernel_rfl) (fun _ _ d _ _ h => by cases d <;> exact h) T2.out ?_
    iterate 19
      (refine' pl_read _ rfl rfl ?_ ?_
       rotate_left
       · (intro W' hW'; (try dsimp only at hW'); obtain ⟨q0, q1, q2, q3⟩ := hW'; go_simp; try rfl)
       simp only [Act.put, List.setIfInBounds_toArray, List.set_cons_zero, List.set_cons_succ])
    refine pl_do _ rfl ?_
    go_wp2_with fail
    refine (put_buf (B2.out.keep (Keep.refl V NoB).drew fun _ _ h => h) _).mono ?_
    rintro e w3 ⟨rfl, b3, k3⟩
    have HR : Kp (∃ (S' : BS) (at_ : Int), BPost w F w3 bb { S' with at_ := at_ } ∧ Q S') := ⟨S1, _, ⟨F1, b3, K2.out.drew.trans k3 F1'.out, F1'.out⟩, HQ.out⟩
    have T3 : Kp (w3.cell? ⟨wb, 10, none⟩ = some (.pointer (some ⟨bb, 0, none⟩)) ∧ w3.cell? ⟨wb, 12, none⟩ = some (.int .i64 fr) ∧ w3.cell? ⟨wb, 13, none⟩ = some (.int .i64 tt) ∧ w3.cell? ⟨wb, 14, none⟩ = some (.int .i64 d)) := by
      obtain ⟨F4, -, k4, -⟩ := HR.out.choose_spec.choose_spec.1
      exact ⟨k4.cell HT.out.1 HWF.out, k4.cell HT.out.2.1 HWF.out, k4.cell HT.out.2.2.1 HWF.out, k4.cell HT.out.2.2.2 HWF.out⟩
    clear b3 k3
    go_wp2_with fail
    refine ⟨T3.out, ?_⟩
    refine pl_end ?_
    simp only [List.drop_succ_cons, List.drop_nil]
    go_wp2_with fail
    go_ret
    exact ⟨rfl, HR.out⟩
  · go_wp2_with fail
    refine wp_region_pl (fun W' => W'.cell? ⟨wb, 10, none⟩ = some (.pointer (some ⟨bb, 0, none⟩)) ∧ W'.cell? ⟨wb, 12, none⟩ = some (.int .i64 fr) ∧ W'.cell? ⟨wb, 13, none⟩ = some (.int .i64 tt) ∧ W'.cell? ⟨wb, 14, none⟩ = some (.int .i64 d))
      (.run 0 13 (.ac 13 .done)) 14 (by kernel_rfl) (by kernel_rfl) (fun _ _ d _ _ h => by cases d <;> exact h) T2.out ?_
    iterate 13
      (refine' pl_read _ rfl rfl ?_ ?_
       rotate_left
       · (intro W' hW'; (try dsimp only at hW'); obtain ⟨q0, q1, q2, q3⟩ := hW'; go_simp; try rfl)
       simp only [Act.put, List.setIfInBounds_toArray, List.set_cons_zero, List.set_cons_succ])
    refine pl_do _ rfl ?_
    go_wp2_with fail
    refine (put_buf (B2.out.keep (Keep.refl V NoB).drew fun _ _ h => h) _).mono ?_
    rintro e w3 ⟨rfl, b3, k3⟩
    have HR : Kp (∃ (S' : BS) (at_ : Int), BPost w F w3 bb { S' with at_ := at_ } ∧ Q S') := ⟨S1, _, ⟨F1, b3, K2.out.drew.trans k3 F1'.out, F1'.out⟩, HQ.out⟩
    have T3 : Kp (w3.cell? ⟨wb, 10, none⟩ = some (.pointer (some ⟨bb, 0, none⟩)) ∧ w3.cell? ⟨wb, 12, none⟩ = some (.int .i64 fr) ∧ w3.cell? ⟨wb, 13, none⟩ = some (.int .i64 tt) ∧ w3.cell? ⟨wb, 14, none⟩ = some (.int .i64 d)) := by
      obtain ⟨F4, -, k4, -⟩ := HR.out.choose_spec.choose_spec.1
      exact ⟨k4.cell HT.out.1 HWF.out, k4.cell HT.out.2.1 HWF.out, k4.cell HT.out.2.2.1 HWF.out, k4.cell HT.out.2.2.2 HWF.out⟩
    clear b3 k3
    go_wp2_with fail
    refine ⟨T3.out, ?_⟩
    refine pl_end ?_
    simp only [List.drop_succ_cons, List.drop_nil]
    go_wp2_with fail
    go_ret
    exact ⟨rfl, HR.out⟩

end Go.Proofs

/- A text and registers under work; edit.Do at d, pu, t and m. -/
namespace Go.Proofs
open Go.RowKit Go.Em

/-- A buffer of these lines and these registers, both made after w0, which is as it was. -/
def Ed (w0 w : World) (bb rb : Nat) (l : List ByteArray) (k : Nat) (f : Int → Option RegD) : Prop :=
  ∃ (S : BS) (F G : Blocks), BMem w bb S F ∧ RMem w rb f G ∧ Dis G F ∧ S.marks = noMarks ∧ Keep w0 NoB w ∧ (∀ b, F b → w0.heap.size ≤ b) ∧ (∀ b, G b → w0.heap.size ≤ b) ∧ S.lines = l ∧ S.opens.length = k

theorem Ed.keeps {w0 w : World} {bb rb : Nat} {l : List ByteArray} {k : Nat} {f : Int → Option RegD} (h : Ed w0 w bb rb l k f) : Keep w0 NoB w := by
  obtain ⟨S, F, G, -, -, -, -, h, -⟩ := h
  exact h
theorem Ed.keep {w0 w w' : World} {bb rb : Nat} {l : List ByteArray} {k : Nat} {f : Int → Option RegD} (h : Ed w0 w bb rb l k f) (hk : Keep w NoB w') : Ed w0 w' bb rb l k f := by
  obtain ⟨S, F, G, h1, h2, h3, h4, h5, h6, h7, h8, h9⟩ := h
  exact ⟨S, F, G, h1.keep hk fun _ _ h => h, h2.keep hk fun _ _ h => h, h3, h4, h5.trans hk (Fresh.refl _ _), h6, h7, h8, h9⟩
/-- Its text. -/
theorem Ed.text {w0 w : World} {bb rb : Nat} {l : List ByteArray} {k : Nat} {f : Int → Option RegD} (h : Ed w0 w bb rb l k f) : ∃ tb F, w.cell? ⟨bb, 0, none⟩ = some (.pointer (some ⟨tb, 0, none⟩)) ∧ TText w tb l F := by
  obtain ⟨S, F, G, h1, -, -, -, -, -, -, h8, -⟩ := h
  obtain ⟨tb, kb, oa, on, oc, -, c0, -, -, -, -, ⟨FT, hT, -, -⟩, -⟩ := h1.cells
  exact ⟨tb, FT, c0, h8 ▸ hT⟩

/-- Work on the text alone. -/
theorem Ed.step {w0 w w' : World} {bb rb : Nat} {S : BS} {F G : Blocks} {f : Int → Option RegD} (hR : RMem w rb f G) (hD : Dis G F) (hm : S.marks = noMarks) (hK : Keep w0 NoB w) (hF : ∀ b, F b → w0.heap.size ≤ b) (hG : ∀ b, G b → w0.heap.size ≤ b)
    {S' : BS} (hp : BPost w F w' bb S') (hm' : S'.marks = S.marks) : Ed w0 w' bb rb S'.lines S'.opens.length f := by
  obtain ⟨F', b, k, fr⟩ := hp
  refine ⟨S', F', G, b, hR.keep k hD, fun x hx hf => ?_, hm'.trans hm, hK.trans (k.mono (G := F) fun _ h => h) fun b hb => .inr (hF b hb), fun b hb => ?_, hG, rfl, rfl⟩
  · rcases fr x hf with h | h
    · exact hD x hx h
    · have := hR.lt x hx; omega
  · rcases fr b hb with h | h
    · exact hF b h
    · have := hK.size; omega

def Zero : Ending := .returned (.tuple #[.slice none 0 0, .int .u16 0])

theorem ed_d {w0 w : World} {bb rb : Nat} {l : List ByteArray} {k : Nat} {f : Int → Option RegD} (h : Ed w0 w bb rb l k f) {i n : Nat} {fr tt d : Int} (hfr : fr = (i : Int) + 1) (htt : tt = (i : Int) + (n : Int)) (hn : 0 < n) (hi : i + n ≤ l.length) (hall : ¬ n = l.length) (hlen : l.length ≤ 2000) (hk : k ≤ 3000000) (hw : weigh ((l.drop i).take n) ≤ 20000)
    {range dest : Value} {arg pat rep flags : ByteArray} {bang : Bool} :
    Calls Tryz.prog 10 #[.pointer (some ⟨bb, 0, none⟩), .pointer (some ⟨rb, 0, none⟩), .agg #[range, .string ⟨#[100]⟩, .bool bang, .int .u8 0, .int .i64 (-1), dest, .string pat, .string rep, .string flags, .string arg], .int .i64 fr, .int .i64 tt, .int .i64 d] w fun e w' =>
      e = Zero ∧ Ed w0 w' bb rb (l.take i ++ [] ++ l.drop (i + n)) (k + 3) (cutF f ((l.drop i).take n, true)) := by
  obtain ⟨S, F, G, h1, h2, h3, h4, h5, h6, h7, rfl, rfl⟩ := h
  subst hfr htt
  refine (do_of_d h1 (by omega) (by omega) (by omega) (by omega) (R := fun e w' => e = .returned (.int .u16 0) ∧ Ed w0 w' bb rb (S.lines.take i ++ [] ++ S.lines.drop (i + n)) (S.opens.length + 3) (cutF f ((S.lines.drop i).take n, true))) (fun e w' h => ⟨0, h.1⟩) ?_).mono ?_
  · intro W wb hK hwb hWM
    refine (remove_work hWM (h1.keep hK fun _ _ h => h) (fun h => by have := h1.lt _ h; omega) h4 hi hlen (h2.keep hK fun _ _ h => h) (fun h => by have := h2.lt _ h; omega) (fun b hb hg => h3 b hg hb) hn hall hk rfl hw).mono ?_
    rintro e w' ⟨he, S', F', G', b', r', d', k', q1, q2, q3, f1, f2⟩
    have hsz : w0.heap.size ≤ W.heap.size := Nat.le_trans h5.size hK.size
    refine ⟨he, S', F', G', b', r', d', q2.trans h4, ?_, fun b hb => (f1 b hb).elim (h6 b) fun h => Nat.le_trans hsz h, fun b hb => (f2 b hb).elim (h7 b) fun h => Nat.le_trans hsz h, q1, q3⟩
    exact (h5.trans hK (Fresh.refl _ _)).trans (k'.mono (G := Or2 F G) fun _ h => h) fun b hb => .inr (hb.elim (h6 b) (h7 b))
  · rintro e w' ⟨v, ⟨hv, hE⟩, rfl⟩
    cases hv
    exact ⟨rfl, hE⟩

theorem ed_pu {w0 w : World} {bb rb : Nat} {l : List ByteArray} {k : Nat} {f : Int → Option RegD} (h : Ed w0 w bb rb l k f) {i : Nat} {fr tt d : Int} (hfr : fr = (i : Int)) (htt : tt = (i : Int)) {x : RegD} (hi : i ≤ l.length) (hx : f 34 = some x) (hx0 : x.1 ≠ []) (hl : isLong x.1 = false) (hlen : l.length + x.1.length ≤ 2000) (hk : k ≤ 3000000)
    {range dest : Value} {arg pat rep flags : ByteArray} :
    Calls Tryz.prog 10 #[.pointer (some ⟨bb, 0, none⟩), .pointer (some ⟨rb, 0, none⟩), .agg #[range, .string ⟨#[112, 117]⟩, .bool false, .int .u8 0, .int .i64 (-1), dest, .string pat, .string rep, .string flags, .string arg], .int .i64 fr, .int .i64 tt, .int .i64 d] w fun e w' =>
      e = Zero ∧ Ed w0 w' bb rb (l.take i ++ x.1 ++ l.drop (i + 0)) (k + 3) f := by
  obtain ⟨S, F, G, h1, h2, h3, h4, h5, h6, h7, rfl, rfl⟩ := h
  subst hfr htt
  refine (do_of_pu h1 (by omega) (by omega) (by omega) (by omega) (R := fun e w' => e = .returned (.int .u16 0) ∧ Ed w0 w' bb rb (S.lines.take i ++ x.1 ++ S.lines.drop (i + 0)) (S.opens.length + 3) f) (fun e w' h => ⟨0, h.1⟩) ?_).mono ?_
  · intro W wb hK hwb hWM
    refine (paste_work hWM rfl (h1.keep hK fun _ _ h => h) (fun h => by have := h1.lt _ h; omega) h4 hi (h2.keep hK fun _ _ h => h) rfl rfl hx hx0 hl hlen hk).mono ?_
    rintro e w' ⟨he, at_, S', hp, q1, -, q3, q4⟩
    refine ⟨he, ?_⟩
    rw [← q1, ← q4]
    exact Ed.step (h2.keep hK fun _ _ h => h) h3 h4 (h5.trans hK (Fresh.refl _ _)) h6 h7 hp q3
  · rintro e w' ⟨v, ⟨hv, hE⟩, rfl⟩
    cases hv
    exact ⟨rfl, hE⟩

theorem ed_t {w0 w : World} {bb rb : Nat} {l : List ByteArray} {k : Nat} {f : Int → Option RegD} (h : Ed w0 w bb rb l k f) {i n j : Nat} {fr tt d : Int} (hfr : fr = (i : Int) + 1) (htt : tt = (i : Int) + (n : Int)) (hd : d = (j : Int)) (hn : 0 < n) (hi : i + n ≤ l.length) (hj : j ≤ l.length) (hl : isLong ((l.drop i).take n) = false) (hlen : l.length + n ≤ 2000) (hk : k ≤ 3000000)
    {range dest : Value} {arg pat rep flags : ByteArray} {bang : Bool} :
    Calls Tryz.prog 10 #[.pointer (some ⟨bb, 0, none⟩), .pointer (some ⟨rb, 0, none⟩), .agg #[range, .string ⟨#[116]⟩, .bool bang, .int .u8 0, .int .i64 (-1), dest, .string pat, .string rep, .string flags, .string arg], .int .i64 fr, .int .i64 tt, .int .i64 d] w fun e w' =>
      e = Zero ∧ Ed w0 w' bb rb (l.take j ++ (l.drop i).take n ++ l.drop (j + 0)) (k + 3) f := by
  obtain ⟨S, F, G, h1, h2, h3, h4, h5, h6, h7, rfl, rfl⟩ := h
  subst hfr htt
  refine (do_of_t h1 (by omega) (by omega) (by omega) (by omega) (R := fun e w' => e = .returned (.int .u16 0) ∧ Ed w0 w' bb rb (S.lines.take j ++ (S.lines.drop i).take n ++ S.lines.drop (j + 0)) (S.opens.length + 3) f) (fun e w' h => ⟨0, h.1⟩) ?_).mono ?_
  · intro W wb hK hwb hWM
    refine (copy_work hWM hd hj (h1.keep hK fun _ _ h => h) (fun h => by have := h1.lt _ h; omega) h4 hi hn hl hlen hk).mono ?_
    rintro e w' ⟨he, at_, S', hp, q1, -, q3, q4⟩
    refine ⟨he, ?_⟩
    rw [← q1, ← q4]
    exact Ed.step (h2.keep hK fun _ _ h => h) h3 h4 (h5.trans hK (Fresh.refl _ _)) h6 h7 hp q3
  · rintro e w' ⟨v, ⟨hv, hE⟩, rfl⟩
    cases hv
    exact ⟨rfl, hE⟩

theorem ed_m {w0 w : World} {bb rb : Nat} {l : List ByteArray} {k : Nat} {f : Int → Option RegD} (h : Ed w0 w bb rb l k f) {i n p q cut : Nat} {fr tt d : Int} (hfr : fr = (i : Int) + 1) (htt : tt = (i : Int) + (n : Int)) (hn : 1 ≤ n) (hi : i + n ≤ l.length) (hlen : l.length ≤ 2000) (hk : k ≤ 3000000)
    (hd : (0 ≤ d ∧ d < (i : Int) ∧ (p : Int) = d ∧ q = i + n ∧ cut + p = i) ∨ ((i : Int) + (n : Int) < d ∧ d ≤ (l.length : Int) ∧ p = i ∧ (q : Int) = d ∧ cut = n))
    {range dest : Value} {arg pat rep flags : ByteArray} {bang : Bool} :
    Calls Tryz.prog 10 #[.pointer (some ⟨bb, 0, none⟩), .pointer (some ⟨rb, 0, none⟩), .agg #[range, .string ⟨#[109]⟩, .bool bang, .int .u8 0, .int .i64 (-1), dest, .string pat, .string rep, .string flags, .string arg], .int .i64 fr, .int .i64 tt, .int .i64 d] w fun e w' =>
      e = Zero ∧ Ed w0 w' bb rb (turned l p q cut) (k + 3) f := by
  obtain ⟨S, F, G, h1, h2, h3, h4, h5, h6, h7, rfl, rfl⟩ := h
  refine (do_of_m h1 (by omega) (by omega) (by omega) (by omega) (R := fun e w' => e = .returned (.int .u16 0) ∧ Ed w0 w' bb rb (turned S.lines p q cut) (S.opens.length + 3) f) (fun e w' h => ⟨0, h.1⟩) ?_).mono ?_
  · intro W wb hK hwb hWM
    refine (move_work (F := F) (Q := fun S' => S'.lines = turned S.lines p q cut ∧ S'.marks = S.marks ∧ S'.opens.length = S.opens.length + 3) hWM (fun h => by have := h1.lt _ h; omega) (by omega) (by omega) (by omega) (by omega) (by omega) (by omega)
      ((move_buf (h1.keep hK.drew fun _ _ h => h) h4 hfr htt hn hi hlen hk hd).mono ?_)).mono ?_
    · rintro e w' ⟨he, S', hp, q1, q2, q3, q4⟩
      exact ⟨he, S', hp, q1, q3, q4⟩
    rintro e w' ⟨he, S', at_, hp, q1, q3, q4⟩
    refine ⟨he, ?_⟩
    rw [← q1, ← q4]
    exact Ed.step (S := S) (S' := { S' with at_ := at_ }) (h2.keep hK fun _ _ h => h) h3 h4 (h5.trans hK (Fresh.refl _ _)) h6 h7 hp q3
  · rintro e w' ⟨v, ⟨hv, hE⟩, rfl⟩
    cases hv
    exact ⟨rfl, hE⟩

theorem ed_m0 {w0 w : World} {bb rb : Nat} {l : List ByteArray} {k : Nat} {f : Int → Option RegD} (h : Ed w0 w bb rb l k f) {i n : Nat} {fr tt d : Int} (hfr : fr = (i : Int) + 1) (htt : tt = (i : Int) + (n : Int)) (hn : 1 ≤ n) (hi : i + n ≤ l.length) (hlen : l.length ≤ 2000) (hd : d = (i : Int) ∨ d = (i : Int) + (n : Int))
    {range dest : Value} {arg pat rep flags : ByteArray} {bang : Bool} :
    Calls Tryz.prog 10 #[.pointer (some ⟨bb, 0, none⟩), .pointer (some ⟨rb, 0, none⟩), .agg #[range, .string ⟨#[109]⟩, .bool bang, .int .u8 0, .int .i64 (-1), dest, .string pat, .string rep, .string flags, .string arg], .int .i64 fr, .int .i64 tt, .int .i64 d] w fun e w' =>
      e = Zero ∧ Ed w0 w' bb rb l k f := by
  obtain ⟨S, F, G, h1, h2, h3, h4, h5, h6, h7, rfl, rfl⟩ := h
  refine (do_of_m h1 (by omega) (by omega) (by omega) (by omega) (R := fun e w' => e = .returned (.int .u16 0) ∧ Ed w0 w' bb rb S.lines S.opens.length f) (fun e w' h => ⟨0, h.1⟩) ?_).mono ?_
  · intro W wb hK hwb hWM
    refine (move_work (F := F) (Q := fun S' => S' = S) hWM (fun h => by have := h1.lt _ h; omega) (by omega) (by omega) (by omega) (by omega) (by omega) (by omega)
      ((move_none (h1.keep hK.drew fun _ _ h => h) hfr htt hn hi hlen hd).mono ?_)).mono ?_
    · rintro e w' ⟨he, hk⟩
      exact ⟨he, S, ⟨F, (h1.keep hK.drew fun _ _ h => h).keep hk fun _ _ h => h, hk.mono fun _ h => h.elim, Fresh.refl _ _⟩, rfl⟩
    rintro e w' ⟨he, S', at_, hp, rfl⟩
    exact ⟨he, Ed.step (S := S') (S' := { S' with at_ := at_ }) (h2.keep hK fun _ _ h => h) h3 h4 (h5.trans hK (Fresh.refl _ _)) h6 h7 hp rfl⟩
  · rintro e w' ⟨v, ⟨hv, hE⟩, rfl⟩
    cases hv
    exact ⟨rfl, hE⟩

end Go.Proofs

/- Plain laws of lists that are cut and put together. -/
namespace Go.Proofs
open Go.Em

/-- Taken apart at a range. -/
theorem apart (xs : List ByteArray) {i n : Nat} (h : i + n ≤ xs.length) : ∃ A B C : List ByteArray, xs = A ++ (B ++ C) ∧ A.length = i ∧ B.length = n ∧ (xs.drop i).take n = B :=
  ⟨xs.take i, (xs.drop i).take n, (xs.drop i).drop n, by rw [List.take_append_drop, List.take_append_drop], by rw [List.length_take]; omega, by rw [List.length_take, List.length_drop]; omega, rfl⟩

theorem cut_put (xs : List ByteArray) {i n : Nat} (h : i + n ≤ xs.length) :
    (xs.take i ++ [] ++ xs.drop (i + n)).take i ++ (xs.drop i).take n ++ (xs.take i ++ [] ++ xs.drop (i + n)).drop (i + 0) = xs := by
  obtain ⟨A, B, C, rfl, rfl, rfl, hB⟩ := apart xs h
  rw [hB]
  have h1 : (A ++ (B ++ C)).drop (A.length + B.length) = C := by rw [← List.append_assoc, ← List.length_append, List.drop_left]
  rw [h1]
  simp

/-- Copied behind itself. -/
def twice (xs : List ByteArray) (i n : Nat) : List ByteArray := xs.take (i + n) ++ (xs.drop i).take n ++ xs.drop (i + n + 0)
theorem twice_eq {A B C : List ByteArray} : twice (A ++ (B ++ C)) A.length B.length = A ++ (B ++ (B ++ C)) := by
  unfold twice
  have h1 : (A ++ (B ++ C)).drop (A.length + B.length + 0) = C := by rw [Nat.add_zero, ← List.append_assoc, ← List.length_append, List.drop_left]
  have h2 : (A ++ (B ++ C)).take (A.length + B.length) = A ++ B := by rw [← List.append_assoc, ← List.length_append, List.take_left]
  rw [h1, h2, List.drop_left, List.take_left]
  simp
theorem twice_length (xs : List ByteArray) {i n : Nat} (h : i + n ≤ xs.length) : (twice xs i n).length = xs.length + n := by
  obtain ⟨A, B, C, rfl, rfl, rfl, -⟩ := apart xs h
  rw [twice_eq]
  simp
  omega
theorem twice_first (xs : List ByteArray) {i n : Nat} (h : i + n ≤ xs.length) : ((twice xs i n).drop i).take n = (xs.drop i).take n := by
  obtain ⟨A, B, C, rfl, rfl, rfl, hB⟩ := apart xs h
  rw [hB, twice_eq, List.drop_left, List.take_left]
theorem twice_next (xs : List ByteArray) {i n : Nat} (h : i + n ≤ xs.length) : ((twice xs i n).drop (i + n)).take n = (xs.drop i).take n := by
  obtain ⟨A, B, C, rfl, rfl, rfl, hB⟩ := apart xs h
  rw [hB, twice_eq, ← List.append_assoc, ← List.length_append, List.drop_left, List.take_left]
theorem twice_cut (xs : List ByteArray) {i n : Nat} (h : i + n ≤ xs.length) : (twice xs i n).take i ++ [] ++ (twice xs i n).drop (i + n) = xs := by
  obtain ⟨A, B, C, rfl, rfl, rfl, hB⟩ := apart xs h
  rw [twice_eq]
  have h1 : (A ++ (B ++ (B ++ C))).drop (A.length + B.length) = B ++ C := by rw [← List.append_assoc, ← List.length_append, List.drop_left]
  rw [h1, List.take_left]
  simp

/-- To the front and back. -/
theorem turned_back (xs : List ByteArray) {i n : Nat} (h : i + n ≤ xs.length) : turned (turned xs 0 (i + n) i) 0 (i + n) n = xs := by
  obtain ⟨A, B, C, rfl, rfl, rfl, -⟩ := apart xs h
  have h1 : ∀ D E : List ByteArray, D.length = A.length + B.length → turned (D ++ C) 0 (A.length + B.length) E.length = (D.drop E.length ++ D.take E.length) ++ C := by
    intro D E hD
    unfold turned
    rw [← hD, List.drop_left]
    simp
  rw [← List.append_assoc, h1 (A ++ B) A (by simp)]
  rw [List.drop_left, List.take_left, h1 (B ++ A) B (by simp; omega)]
  rw [List.drop_left, List.take_left]
theorem turned_length (xs : List ByteArray) {i n : Nat} (h : i + n ≤ xs.length) : (turned xs 0 (i + n) i).length = xs.length := by
  unfold turned
  simp
  omega

end Go.Proofs

/- The walk of the law EditMoves. -/
namespace Go.Proofs
open Go.RowKit Go.Em

set_option maxRecDepth 100000 in
set_option maxHeartbeats 2000000 in
theorem moves_known {w : World} {a : Option Addr} {n c : Nat} {xs : List ByteArray} (hr : Rd w 1 a n (vstr xs)) (hn : n < 9223372036854775807) (hw : weigh xs < 9223372036854775807) (fr tt : Int) (dd : Int) (h : (300 < n ∨ 6000 < weigh xs) ∨ n < 2) :
    Calls Tryz.prog 3 #[.slice a n c, .int .i64 fr, .int .i64 tt, .int .i64 dd] w fun e w' => e = .returned (.bool true) ∧ Keep w NoB w' := by
  have HR : Kp _ := ⟨hr⟩
  clear hr
  by_cases hh : 300 < n ∨ 6000 < weigh xs
  · have hd : decide (300 < n ∨ 6000 < weigh xs ∨ 30 < 0) = true := by simpa [or_assoc] using hh
    clear h hh
    go_enter Tryz.func3, Tryz.ntmps3
    go_wp2_with fail
    refine (heavy_calls HR.out hn hw).mono ?_
    rintro e w' ⟨rfl, rfl⟩
    rw [hd]
    go_wp2_with ((with_reducible refine (known_calls _).mono ?_)
                 rintro e w' ⟨rfl, hb⟩
                 have HB : Kp _ := ⟨hb⟩
                 clear hb)
    go_ret
    exact ⟨rfl, Keep.of_below HB.out _⟩
  · have h0 : (n : Int) < 2 := by omega
    have hd : decide (300 < n ∨ 6000 < weigh xs ∨ 30 < 0) = false := by simp; omega
    clear h hh
    go_enter Tryz.func3, Tryz.ntmps3
    go_wp2_with fail
    refine (heavy_calls HR.out hn hw).mono ?_
    rintro e w' ⟨rfl, rfl⟩
    rw [hd]
    go_wp2_with ((with_reducible refine (known_calls _).mono ?_)
                 rintro e w' ⟨rfl, hb⟩
                 have HB : Kp _ := ⟨hb⟩
                 clear hb)
    go_ret
    exact ⟨rfl, Keep.of_below HB.out _⟩

set_option maxRecDepth 100000 in
set_option maxHeartbeats 2000000 in
theorem moves_long {w : World} {a : Option Addr} {n c : Nat} {xs : List ByteArray} (hr : Rd w 1 a n (vstr xs)) (h0 : 2 ≤ n) (hn : n ≤ 300) (hw : weigh xs ≤ 6000) (hl : isLong xs = true) (fr tt : Int) (dd : Int) :
    Calls Tryz.prog 3 #[.slice a n c, .int .i64 fr, .int .i64 tt, .int .i64 dd] w fun e w' => e = .returned (.bool true) ∧ Keep w NoB w' := by
  have HR : Kp _ := ⟨hr⟩
  have HL : Kp _ := ⟨hl⟩
  clear hr hl
  have hd : decide (300 < n ∨ 6000 < weigh xs ∨ 30 < 0) = false := by simp; omega
  have hn0 : ¬ ((n : Int) < 2) := by omega
  go_enter Tryz.func3, Tryz.ntmps3
  go_wp2_with fail
  refine (heavy_calls HR.out (by omega) (by omega)).mono ?_
  rintro e w' ⟨rfl, rfl⟩
  rw [hd]
  clear hw
  go_wp2_with ((with_reducible refine (known_calls _).mono ?_)
               rintro e w1 ⟨rfl, hb⟩
               have HB : Kp _ := ⟨Keep.of_below hb NoB⟩
               clear hb)
  refine (new_buf_long (HR.out.keep HB.out fun _ _ h => h) (by omega) HL.out (by omega) (by omega)).mono ?_
  rintro e w2 ⟨rfl, k2⟩
  have K2 : Kp (Keep w NoB w2) := ⟨HB.out.trans k2 (Fresh.refl _ _)⟩
  clear k2
  go_wp2_with fail
  refine (new_regs w2).mono ?_
  rintro e w3 ⟨rb, G, rfl, r3, k3, f3⟩
  have K3 : Kp (Keep w NoB w3) := ⟨K2.out.trans k3 (Fresh.refl _ _)⟩
  clear r3 k3 f3
  go_wp2_with fail
  go_ret
  exact ⟨rfl, K3.out⟩

set_option maxRecDepth 100000 in
set_option maxHeartbeats 8000000 in
theorem moves_ok {w : World} {a : Option Addr} {n c : Nat} {xs : List ByteArray} (hr : Rd w 1 a n (vstr xs)) (hc : n ≤ c) (hcm : c ≤ 9223372036854775807) (h0 : 2 ≤ n) (hn : n ≤ 300) (hw : weigh xs ≤ 6000) (hl : isLong xs = false) (fr tt dd : Int) :
    Calls Tryz.prog 3 #[.slice a n c, .int .i64 fr, .int .i64 tt, .int .i64 dd] w fun e w' => e = .returned (.bool true) ∧ Keep w NoB w' := by
  have HR : Kp _ := ⟨hr⟩
  have HL : Kp _ := ⟨hl⟩
  have HW : Kp _ := ⟨hw⟩
  have HC : Kp _ := ⟨hc⟩
  have HCM : Kp _ := ⟨hcm⟩
  have hd : decide (300 < n ∨ 6000 < weigh xs ∨ 30 < 0) = false := by simp; omega
  clear hr hl hw hc hcm
  have hn0 : ¬ ((n : Int) < 2) := by omega
  have hnz : ¬ ((n : Int) = 0) := by omega
  go_enter Tryz.func3, Tryz.ntmps3
  go_wp2_with fail
  refine (heavy_calls HR.out (by omega) (by have := HW.out; omega)).mono ?_
  rintro e w' ⟨rfl, rfl⟩
  rw [hd]
  clear hd
  go_wp2_with ((with_reducible refine (known_calls _).mono ?_)
               rintro e w1 ⟨rfl, hb⟩
               have HB : Kp _ := ⟨Keep.of_below hb NoB⟩
               clear hb)
  refine (new_buf (HR.out.keep HB.out fun _ _ h => h) (by omega) HC.out HCM.out HL.out (by omega) (by omega)).mono ?_
  rintro e w2 ⟨bb, S, F, FS, rfl, b2, l2, a2, m2, o2, -, -, f2, -, k2⟩
  have K2 : Kp (Keep w NoB w2) := ⟨HB.out.trans k2 (Fresh.refl _ _)⟩
  have B2 : Kp _ := ⟨b2⟩
  have F2 : Kp (∀ b, F b → w.heap.size ≤ b) := ⟨fun b hb => Nat.le_trans HB.out.size (f2 b hb)⟩
  have L2 : Kp _ := ⟨l2⟩
  have M2 : Kp _ := ⟨m2⟩
  have O2 : Kp _ := ⟨o2⟩
  clear b2 l2 a2 m2 o2 f2 k2
  go_wp2_with fail
  refine (new_regs w2).mono ?_
  rintro e w3 ⟨rb, G, rfl, r3, k3, f3⟩
  have hxl : xs.length = n := by have := HR.out.len; rw [vstr_length, Nat.mul_one] at this; exact this
  have E3 : Kp (Ed w w3 bb rb xs 0 fun _ => none) :=
    ⟨S, F, G, B2.out.keep k3 fun _ _ h => h, r3, fun b hG hF => by have := B2.out.lt b hF; have := f3 b hG; omega, M2.out, K2.out.trans k3 (Fresh.refl _ _), F2.out, fun b hb => Nat.le_trans K2.out.size (f3 b hb),
      L2.out.trans (if_neg fun e => by rw [e] at hxl; simp at hxl; omega), by rw [O2.out]; rfl⟩
  have HXL : Kp _ := ⟨hxl⟩
  clear r3 k3 f3 hxl B2 K2 L2 M2 O2 F2
  obtain ⟨i, hi⟩ : ∃ i : Nat, max fr 0 % (n : Int) = (i : Int) := ⟨(max fr 0 % (n : Int)).toNat, by have := Int.emod_nonneg (max fr 0) (b := (n : Int)) (by omega); omega⟩
  have hi2 : (i : Int) < (n : Int) := by rw [← hi]; exact Int.emod_lt_of_pos _ (by omega)
  have hib : max fr 0 % (n : Int) < 1000 := by omega
  have hib0 : 0 ≤ max fr 0 % (n : Int) := by omega
  have hmd : 0 < (n : Int) - (1 + max fr 0 % (n : Int)) + 1 := by omega
  have hmd0 : ¬ ((n : Int) - (1 + max fr 0 % (n : Int)) + 1 = 0) := by omega
  obtain ⟨m, hm⟩ : ∃ m : Nat, max tt 0 % ((n : Int) - (1 + max fr 0 % (n : Int)) + 1) = (m : Int) := ⟨(max tt 0 % ((n : Int) - (1 + max fr 0 % (n : Int)) + 1)).toNat, by have := Int.emod_nonneg (max tt 0) hmd0; omega⟩
  have hm2 : (m : Int) < (n : Int) - (1 + max fr 0 % (n : Int)) + 1 := by rw [← hm]; exact Int.emod_lt_of_pos _ hmd
  have hmb : max tt 0 % ((n : Int) - (1 + max fr 0 % (n : Int)) + 1) < 1000 := by omega
  have hmb0 : 0 ≤ max tt 0 % ((n : Int) - (1 + max fr 0 % (n : Int)) + 1) := by omega
  have HFR : Kp (1 + max fr 0 % (n : Int) = (i : Int) + 1) := ⟨by omega⟩
  have HFR1 : Kp (max fr 0 % (n : Int) = (i : Int)) := ⟨by omega⟩
  have HTO : Kp (1 + max fr 0 % (n : Int) + max tt 0 % ((n : Int) - (1 + max fr 0 % (n : Int)) + 1) = (i : Int) + ((m + 1 : Nat) : Int)) := ⟨by omega⟩
  have HIM : Kp (i + (m + 1) ≤ n) := ⟨by omega⟩
  have hful : m + 1 = n ∨ m + 1 < n := by omega
  have hmm : max tt 0 % ((n : Int) - (1 + max fr 0 % (n : Int)) + 1) = (m : Int) := hm
  clear hi hi2 hm hm2 hmd
  rcases hful with hful | hml
  · have hfull : 1 + max fr 0 % (n : Int) + max tt 0 % ((n : Int) - (1 + max fr 0 % (n : Int)) + 1) - (1 + max fr 0 % (n : Int)) + 1 = (n : Int) := by omega
    go_wp2_with fail
    go_ret
    exact ⟨by first | rfl | simp, E3.out.keeps⟩
  have hfull : ¬ (1 + max fr 0 % (n : Int) + max tt 0 % ((n : Int) - (1 + max fr 0 % (n : Int)) + 1) - (1 + max fr 0 % (n : Int)) + 1 = (n : Int)) := by omega
  have HML : Kp _ := ⟨hml⟩
  clear hmm
  have hseg : weigh ((xs.drop i).take (m + 1)) ≤ 20000 := by
    have h1 := weigh_take (xs.drop i) (m + 1)
    have h2 := weigh_append (xs.take i) (xs.drop i)
    rw [List.take_append_drop] at h2
    have := HW.out
    omega
  have HSEG : Kp _ := ⟨hseg⟩
  clear hml hseg
  go_wp2_with fail
  rw [HTO.out, HFR.out]
  have hib2 : (i : Int) < 1000 := by have := HIM.out; omega
  have hmb2 : (m : Int) < 1000 := by have := HIM.out; omega
  clear hfull hib hib0 hmd0 hmb hmb0 HFR HFR1 HTO
  have HIX : Kp (i + (m + 1) ≤ xs.length) := ⟨by rw [HXL.out]; exact HIM.out⟩
  refine (ed_d E3.out rfl rfl (by omega) HIX.out (by rw [HXL.out]; have := HML.out; omega) (by rw [HXL.out]; omega) (by omega) HSEG.out).mono ?_
  rintro e w4 ⟨rfl, e4⟩
  have E4 : Kp _ := ⟨e4⟩
  have K4 : Kp _ := ⟨e4.keeps⟩
  clear e4
  unfold Zero
  go_wp2_with fail
  have hsl : ((xs.drop i).take (m + 1)).length = m + 1 := by rw [List.length_take, List.length_drop]; have := HIX.out; omega
  have hsn : (xs.drop i).take (m + 1) ≠ [] := fun e => by rw [e] at hsl; simp at hsl
  have hsg : isLong ((xs.drop i).take (m + 1)) = false := by
    have := HL.out
    unfold isLong at this ⊢
    rw [List.any_eq_false] at this ⊢
    exact fun x hx => this x (List.mem_of_mem_drop (List.mem_of_mem_take hx))
  have HSL : Kp _ := ⟨hsl⟩
  have HSN : Kp _ := ⟨hsn⟩
  have HSG : Kp _ := ⟨hsg⟩
  clear hsl hsn hsg
  refine (ed_pu E4.out (i := i) (by omega) (by omega) (by simp; have := HIX.out; omega) (cutF_nameless _ _) HSN.out HSG.out (by rw [HSL.out]; simp; rw [HXL.out]; omega) (by omega)).mono ?_
  rintro e w5 ⟨rfl, e5⟩
  dsimp only at e5
  rw [cut_put xs HIX.out] at e5
  have E5 : Kp _ := ⟨e5⟩
  have K5 : Kp _ := ⟨e5.keeps⟩
  obtain ⟨tb, FT, c0, hT⟩ := e5.text
  have HT : Kp _ := ⟨hT⟩
  clear e5 E4 K4 hT
  unfold Zero
  go_wp2_with fail
  refine (lines_text HT.out).mono ?_
  rintro e w6 ⟨la, lc, lb, rfl, s6, k6, -⟩
  have S6 : Kp _ := ⟨s6⟩
  have E6 : Kp _ := ⟨E5.out.keep k6⟩
  clear s6 k6 E5 HT K5
  go_wp2_with fail
  refine (same_calls (Rd.of_sl S6.out (vstr_one _)) (HR.out.keep E6.out.keeps fun _ _ h => h) (by rw [HXL.out]; omega)).mono ?_
  rintro e w7 ⟨rfl, q7, rfl⟩
  rw [show decide (xs = xs) = true from decide_eq_true rfl]
  have E7 : Kp _ := ⟨E6.out.keep ((Keep.refl w6 NoB).drewN q7)⟩
  clear E6 S6
  generalize w6.drewN q7 = w7 at *
  go_wp2_with fail
  refine (ed_t E7.out (i := i) (n := m + 1) (j := i + (m + 1)) (by omega) (by omega) (by omega) (by omega) HIX.out HIX.out HSG.out (by rw [HXL.out]; omega) (by omega)).mono ?_
  rintro e w8 ⟨rfl, e8⟩
  have E8 : Kp (Ed w w8 bb rb (twice xs i (m + 1)) _ _) := ⟨e8⟩
  have K8 : Kp _ := ⟨e8.keeps⟩
  obtain ⟨tb, FT, c0, hT⟩ := E8.out.text
  have HT : Kp _ := ⟨hT⟩
  clear e8 E7 hT
  unfold Zero
  go_wp2_with fail
  refine (lines_text HT.out).mono ?_
  rintro e w9 ⟨la, lc, lb, rfl, s9, k9, -⟩
  rw [twice_length xs HIX.out, HXL.out] at s9 ⊢
  have S9 : Kp _ := ⟨s9⟩
  have E9 : Kp _ := ⟨E8.out.keep k9⟩
  clear s9 k9 E8 HT K8
  go_wp2_with fail
  obtain ⟨g, hg, hsa⟩ := S9.out.nonnil (by omega)
  subst hsa
  subst hg
  have hsc := S9.out.le
  have r1 : IntKind.i64.wrap ((n : Int) + ((i : Int) + ((m : Int) + 1))) = (n : Int) + ((i : Int) + ((m : Int) + 1)) := IntWalk.i64_in _ (by have := HIM.out; omega)
  have r2 : IntKind.i64.wrap ((n : Int) + ((i : Int) + ((m : Int) + 1)) - ((i : Int) + 1)) = (n : Int) + (m : Int) := by rw [show (n : Int) + ((i : Int) + ((m : Int) + 1)) - ((i : Int) + 1) = (n : Int) + (m : Int) by omega]; exact IntWalk.i64_in _ (by have := HIM.out; omega)
  have r3 : IntKind.i64.wrap ((n : Int) + (m : Int) + 1) = (n : Int) + ((m : Int) + 1) := by rw [show (n : Int) + (m : Int) + 1 = (n : Int) + ((m : Int) + 1) by omega]; exact IntWalk.i64_in _ (by have := HIM.out; omega)
  have r4 : IntKind.i64.wrap ((i : Int) + 1 - 1) = (i : Int) := by rw [show (i : Int) + 1 - 1 = (i : Int) by omega]; exact IntWalk.i64_in _ (by have := HIM.out; omega)
  have r5 : IntKind.i64.wrap ((i : Int) + ((m : Int) + 1) + ((i : Int) + ((m : Int) + 1))) = (i : Int) + ((m : Int) + 1) + ((i : Int) + ((m : Int) + 1)) := IntWalk.i64_in _ (by have := HIM.out; omega)
  have r6 : IntKind.i64.wrap ((i : Int) + ((m : Int) + 1) + ((i : Int) + ((m : Int) + 1)) - ((i : Int) + 1)) = (i : Int) + ((m : Int) + 1) + (m : Int) := by rw [show (i : Int) + ((m : Int) + 1) + ((i : Int) + ((m : Int) + 1)) - ((i : Int) + 1) = (i : Int) + ((m : Int) + 1) + (m : Int) by omega]; exact IntWalk.i64_in _ (by have := HIM.out; omega)
  have r7 : IntKind.i64.wrap ((i : Int) + ((m : Int) + 1) + (m : Int) + 1) = (i : Int) + ((m : Int) + 1) + ((m : Int) + 1) := by rw [show (i : Int) + ((m : Int) + 1) + (m : Int) + 1 = (i : Int) + ((m : Int) + 1) + ((m : Int) + 1) by omega]; exact IntWalk.i64_in _ (by have := HIM.out; omega)
  have r8 : IntKind.i64.wrap (i : Int) = (i : Int) := IntWalk.i64_in _ (by have := HIM.out; omega)
  have sl1 : ∀ W, (Instr.slice 22 (.slice (some ⟨g, 0, none⟩) (n + (m + 1)) lc) (some (.int .i64 (i : Int))) (some (.int .i64 ((i : Int) + ((m : Int) + 1)))) none).run Tryz.prog W = .ok (.slice (some ⟨g, i, none⟩) (m + 1) (lc - i)) W := fun W => by
    have := slice_str ⟨g, 0, none⟩ (n := n + (m + 1)) (c := lc) (i := i) (m := m + 1) (by have := HIM.out; omega) hsc (by have := HIM.out; omega) W (x := (i : Int)) (y := (i : Int) + ((m : Int) + 1)) rfl (by omega)
    rw [this]
    simp [Addr.add]
    try omega
  have sl2 : ∀ W, (Instr.slice 22 (.slice (some ⟨g, 0, none⟩) (n + (m + 1)) lc) (some (.int .i64 ((i : Int) + ((m : Int) + 1)))) (some (.int .i64 ((i : Int) + ((m : Int) + 1) + ((m : Int) + 1)))) none).run Tryz.prog W = .ok (.slice (some ⟨g, i + (m + 1), none⟩) (m + 1) (lc - (i + (m + 1)))) W := fun W => by
    have := slice_str ⟨g, 0, none⟩ (n := n + (m + 1)) (c := lc) (i := i + (m + 1)) (m := m + 1) (by have := HIM.out; omega) hsc (by have := HIM.out; omega) W (x := (i : Int) + ((m : Int) + 1)) (y := (i : Int) + ((m : Int) + 1) + ((m : Int) + 1)) (by omega) (by omega)
    rw [this]
    simp [Addr.add]
    try omega
  refine wp_region_pl (fun _ => True) (.run 0 28 (.ac 28 (.run 29 2 .done))) 31 (by kernel_rfl) (by kernel_rfl) (fun _ _ d _ _ h => by cases d <;> exact h) trivial ?_
  iterate 11
    (refine' pl_read _ rfl rfl ?_ ?_
     rotate_left
     · (intro W' hW'; (try dsimp only at hW'); go_simp; try rfl)
     simp only [Act.put, List.setIfInBounds_toArray, List.set_cons_zero, List.set_cons_succ])
  refine' pl_read (v := .bool false) _ rfl rfl ?_ ?_
  · intro W' hW'
    clear hW'
    go_simp
    try omega
  simp only [Act.put, List.setIfInBounds_toArray, List.set_cons_zero, List.set_cons_succ]
  iterate 6
    (refine' pl_read _ rfl rfl ?_ ?_
     rotate_left
     · (intro W' hW'; (try dsimp only at hW'); go_simp; try rfl)
     simp only [Act.put, List.setIfInBounds_toArray, List.set_cons_zero, List.set_cons_succ])
  refine' pl_read (v := .slice (some ⟨g, i, none⟩) (m + 1) (lc - i)) _ rfl rfl ?_ ?_
  · intro W' hW'
    clear hW'
    have hs := sl1 W'
    go_simp
    try rfl
  simp only [Act.put, List.setIfInBounds_toArray, List.set_cons_zero, List.set_cons_succ]
  iterate 8
    (refine' pl_read _ rfl rfl ?_ ?_
     rotate_left
     · (intro W' hW'; (try dsimp only at hW'); go_simp; try rfl)
     simp only [Act.put, List.setIfInBounds_toArray, List.set_cons_zero, List.set_cons_succ])
  refine' pl_read (v := .slice (some ⟨g, i + (m + 1), none⟩) (m + 1) (lc - (i + (m + 1)))) _ rfl rfl ?_ ?_
  · intro W' hW'
    clear hW'
    have hs := sl2 W'
    go_simp
    try rfl
  simp only [Act.put, List.setIfInBounds_toArray, List.set_cons_zero, List.set_cons_succ]
  clear sl1 sl2 r1 r2 r3 r4 r5 r6 r7 r8
  refine pl_do _ rfl ?_
  go_wp2_with fail
  have hs9 : Keep w9 NoB w9.drew := (Keep.refl w9 NoB).drew
  obtain ⟨ad1, e1, q1⟩ := rd_sub (Rd.of_sl (S9.out.keep hs9 fun _ _ h => h) (vstr_one _)) i (m + 1) (by have := HIM.out; omega) (by omega)
  cases e1
  obtain ⟨ad2, e2, q2⟩ := rd_sub (Rd.of_sl (S9.out.keep hs9 fun _ _ h => h) (vstr_one _)) (i + (m + 1)) (m + 1) (by have := HIM.out; omega) (by omega)
  cases e2
  rw [twice_first xs HIX.out, show (⟨g, 0, none⟩ : Addr).add i = ⟨g, i, none⟩ by rw [Addr.add_lit, Nat.zero_add]] at q1
  rw [twice_next xs HIX.out, show (⟨g, 0, none⟩ : Addr).add (i + (m + 1)) = ⟨g, i + (m + 1), none⟩ by rw [Addr.add_lit, Nat.zero_add]] at q2
  refine (same_calls q1 q2 (by omega)).mono ?_
  rintro e w10 ⟨rfl, q10, rfl⟩
  rw [show decide ((xs.drop i).take (m + 1) = (xs.drop i).take (m + 1)) = true from decide_eq_true rfl]
  have E10 : Kp _ := ⟨E9.out.keep ((Keep.refl w9 NoB).drewN (1 + q10))⟩
  clear q1 q2 hs9 E9 S9 hsc
  go_wp2_with fail
  generalize w9.drewN (1 + q10) = w10 at *
  refine ⟨trivial, ?_⟩
  iterate 2
    (refine' pl_read _ rfl rfl ?_ ?_
     rotate_left
     · (intro W' hW'; (try dsimp only at hW'); go_simp; try rfl)
     simp only [Act.put, List.setIfInBounds_toArray, List.set_cons_zero, List.set_cons_succ])
  refine pl_end ?_
  simp only [List.drop_succ_cons, List.drop_nil]
  go_wp2_with fail
  refine (ed_d E10.out (i := i) (n := m + 1) (by omega) (by omega) (by omega) (by rw [twice_length xs HIX.out]; have := HIX.out; omega) (by rw [twice_length xs HIX.out, HXL.out]; omega) (by rw [twice_length xs HIX.out, HXL.out]; omega) (by omega) (by rw [twice_first xs HIX.out]; exact HSEG.out)).mono ?_
  rintro e w11 ⟨rfl, e11⟩
  rw [twice_cut xs HIX.out] at e11
  have E11 : Kp _ := ⟨e11⟩
  clear e11 E10
  unfold Zero
  go_wp2_with fail
  by_cases hi0 : i = 0
  · refine (ed_m0 E11.out (i := i) (n := m + 1) (by omega) (by omega) (by omega) HIX.out (by rw [HXL.out]; omega) (.inl (by omega))).mono ?_
    rintro e w12 ⟨rfl, e12⟩
    have E12 : Kp _ := ⟨e12⟩
    clear e12 E11
    unfold Zero
    go_wp2_with fail
    refine (ed_m0 E12.out (i := 0) (n := m + 1) (by omega) (by omega) (by omega) (by have := HIX.out; omega) (by rw [HXL.out]; omega) (.inr (by omega))).mono ?_
    rintro e w13 ⟨rfl, e13⟩
    have E13 : Kp _ := ⟨e13⟩
    clear e13 E12
    obtain ⟨tb, FT, c0, hT⟩ := E13.out.text
    have HT : Kp _ := ⟨hT⟩
    clear hT
    unfold Zero
    go_wp2_with fail
    refine (lines_text HT.out).mono ?_
    rintro e w14 ⟨la, lc, lb, rfl, s14, k14, -⟩
    have S14 : Kp _ := ⟨s14⟩
    have K14 : Kp _ := ⟨(E13.out.keep k14).keeps⟩
    clear s14 k14 E13 HT
    go_wp2_with fail
    refine (same_calls (Rd.of_sl S14.out (vstr_one _)) (HR.out.keep K14.out fun _ _ h => h) (by rw [HXL.out]; omega)).mono ?_
    rintro e w15 ⟨rfl, q15, rfl⟩
    rw [show decide (xs = xs) = true from decide_eq_true rfl]
    go_wp2_with fail
    go_ret
    exact ⟨by first | rfl | simp, K14.out.drewN q15⟩
  · refine (ed_m E11.out (i := i) (n := m + 1) (p := 0) (q := i + (m + 1)) (cut := i) (by omega) (by omega) (by omega) HIX.out (by rw [HXL.out]; omega) (by omega) (.inl ⟨by omega, by omega, by omega, by omega, by omega⟩)).mono ?_
    rintro e w12 ⟨rfl, e12⟩
    have E12 : Kp _ := ⟨e12⟩
    clear e12 E11
    unfold Zero
    go_wp2_with fail
    refine (ed_m E12.out (i := 0) (n := m + 1) (p := 0) (q := i + (m + 1)) (cut := m + 1) (by omega) (by omega) (by omega) (by rw [turned_length xs HIX.out]; have := HIX.out; omega) (by rw [turned_length xs HIX.out, HXL.out]; omega) (by omega) (.inr ⟨by omega, by rw [turned_length xs HIX.out]; have := HIX.out; omega, by omega, by omega, by omega⟩)).mono ?_
    rintro e w13 ⟨rfl, e13⟩
    rw [turned_back xs HIX.out] at e13
    have E13 : Kp _ := ⟨e13⟩
    clear e13 E12
    obtain ⟨tb, FT, c0, hT⟩ := E13.out.text
    have HT : Kp _ := ⟨hT⟩
    clear hT
    unfold Zero
    go_wp2_with fail
    refine (lines_text HT.out).mono ?_
    rintro e w14 ⟨la, lc, lb, rfl, s14, k14, -⟩
    have S14 : Kp _ := ⟨s14⟩
    have K14 : Kp _ := ⟨(E13.out.keep k14).keeps⟩
    clear s14 k14 E13 HT
    go_wp2_with fail
    refine (same_calls (Rd.of_sl S14.out (vstr_one _)) (HR.out.keep K14.out fun _ _ h => h) (by rw [HXL.out]; omega)).mono ?_
    rintro e w15 ⟨rfl, q15, rfl⟩
    rw [show decide (xs = xs) = true from decide_eq_true rfl]
    go_wp2_with fail
    go_ret
    exact ⟨by first | rfl | simp, K14.out.drewN q15⟩

theorem moves_calls {w : World} {a : Option Addr} {n c : Nat} {xs : List ByteArray} (hr : Rd w 1 a n (vstr xs)) (hc : n ≤ c) (hcm : c ≤ 9223372036854775807) (hn : n ≤ 1048576) (hw : weigh xs ≤ 9000000) (fr tt : Int) (dd : Int) :
    Calls Tryz.prog 3 #[.slice a n c, .int .i64 fr, .int .i64 tt, .int .i64 dd] w fun e w' => e = .returned (.bool true) ∧ Keep w NoB w' := by
  by_cases h : (300 < n ∨ 6000 < weigh xs) ∨ n < 2
  · exact moves_known hr (by omega) (by omega) fr tt dd h
  · have h1 : 2 ≤ n := by omega
    have h2 : n ≤ 300 := by omega
    have h3 : weigh xs ≤ 6000 := by omega
    cases hl : isLong xs with
    | true => exact moves_long hr h1 h2 h3 hl fr tt dd
    | false => exact moves_ok hr hc hcm h1 h2 h3 hl fr tt dd

end Go.Proofs

/- EditMoves: the law answers true at every input of bulk at most 1048576, and each argument reads afterwards as it read before. Its card: what the row lists of the library's tables is tied to the program's text by the given tie. -/
namespace Go.Proofs.YtajpgjbepebcmaaGreatDoor.editMoves
open Go.RowKit Go.Em Go.ChangeShapes Go.WideShapes Go.ChangeAt
open Go.Proofs

set_option maxRecDepth 100000 in
theorem contract (H : Type) (enc : TypeId × Value → H) (W : World) (base : Nat) (args : Array Value) (ds gs : List (DataW H)) (before : List MemPlace)
    (hval : ∀ (j : Nat) t v, Tryz.f3.params[j]? = some t → args[j]? = some v → Value.okWide Tryz.prog W .any base t v)
    (hW : DataW.Whole enc Tryz.prog Tryz.f3.params.toList Rows.editMovesSpec.vars false W args.toList ds gs before) (hk : Rows.uptoSmall H (ds ++ gs) = true) :
    Calls Tryz.prog 3 args W fun e W' => ∃ v, e = .returned v ∧ Rows.editMovesSpec.post enc Tryz.prog Tryz.f3 false true false false W args v W' := by
  have hW' := hW
  obtain ⟨p, q, hA0, hV, rfl, hfz, hnd⟩ := hW
  have hA : DataW.TrodAll enc Tryz.prog W 0 (fun _ => true) true Tryz.f3.params.toList args.toList ds p := hA0
  rw [Tryz.params3] at hA hval
  obtain ⟨v0, vs0, d0, ds0, p0, q0, hargs, rfl, rfl, h0, r0⟩ := trodAll_cons hA
  obtain ⟨v1, vs1, d1, ds1, p1, q1, rfl, rfl, rfl, h1, r1⟩ := trodAll_cons r0
  obtain ⟨v2, vs2, d2, ds2, p2, q2, rfl, rfl, rfl, h2, r2⟩ := trodAll_cons r1
  obtain ⟨v3, vs3, d3, ds3, p3, q3, rfl, rfl, rfl, h3, r3⟩ := trodAll_cons r2
  obtain ⟨rfl, rfl, rfl⟩ := trodAll_nil r3
  obtain rfl : args = #[v0, v1, v2, v3] := by cases args; simp_all
  obtain ⟨rfl, rfl⟩ := trodVars_none hV
  obtain ⟨a, n, c, xs, rfl, hr, hc, hcm, hnb, hwb⟩ := lines_in (hval 0 22 v0 rfl rfl) h0
  obtain ⟨n1, rfl, rfl, rfl, -⟩ := open_int Tryz.underlying3 (hval 1 3 v1 rfl rfl) h1
  obtain ⟨n2, rfl, rfl, rfl, -⟩ := open_int Tryz.underlying3 (hval 2 3 v2 rfl rfl) h2
  obtain ⟨n3, rfl, rfl, rfl, -⟩ := open_int Tryz.underlying3 (hval 3 3 v3 rfl rfl) h3
  have hbulk : Rows.uptoBulkAll ([d0, .lit (.int .i64 n1), .lit (.int .i64 n2), .lit (.int .i64 n3)] ++ []) ≤ 1048576 := of_decide_eq_true hk
  simp only [List.append_nil, Rows.uptoBulkAll] at hbulk
  refine (moves_calls hr hc hcm (by omega) (by omega) n1 n2 n3).mono fun e W' ⟨he, hkp⟩ => ?_
  subst he
  exact ⟨_, rfl, law_post rfl rfl (by kernel_rfl) hW' rfl hkp.below⟩

theorem laid_met (os : Os) : laidMet Tryz.prog Rows.editMovesUptoRow.laid ((laidWorld os).forCall (fun _ _ => 0) ⟨#[], #[.slice none 0 0, .int .i64 0, .int .i64 0, .int .i64 0], []⟩).memory :=
  laidMet_of_run' 8 (by kernel_rfl) (by kernel_rfl)
theorem reads (os : Os) {H : Type} (enc : TypeId × Value → H) : ∃ places, DataW.whole enc Tryz.prog ((laidWorld os).forCall (fun _ _ => 0) ⟨#[], #[.slice none 0 0, .int .i64 0, .int .i64 0, .int .i64 0], []⟩).memory Tryz.f3.params.toList Rows.editMovesSpec.vars false (#[.slice none 0 0, .int .i64 0, .int .i64 0, .int .i64 0] : Array Value).toList 8 = some ([.nil, .lit (.int .i64 0), .lit (.int .i64 0), .lit (.int .i64 0)], [], places) :=
  ⟨[], by kernel_rfl⟩

set_option maxRecDepth 100000 in
theorem liftedUpto (os : Os) (started : os.Started) (H : Type) (enc : TypeId × Value → H) (F : Stop.Interp) :
    ReturnsInHanded {} Tryz.checked os 3 .any ((Rows.OpenSpec.upto Rows.editMovesSpec).preRow enc Tryz.prog Tryz.f3 Rows.editMovesUptoRow.domain false Rows.editMovesUptoRow.laid) (((Rows.OpenSpec.upto Rows.editMovesSpec).at F).post enc Tryz.prog Tryz.f3 false true false false) := by
  obtain ⟨places, hx⟩ := reads os enc
  refine returnsInHanded_of_row (C := Tryz.checked) (s := Rows.OpenSpec.upto Rows.editMovesSpec) own started (by kernel_rfl) Tryz.func3
    (witness_row_at (enc := enc) (C := Tryz.checked) false (laidWorld os) #[.slice none 0 0, .int .i64 0, .int .i64 0, .int .i64 0] rfl (by kernel_rfl) (by kernel_rfl) (by kernel_rfl)
      (OpenSpec.preRow_of_cond 8 hx (by kernel_rfl) (fun k hk => by cases hk; kernel_rfl) (by kernel_rfl) (laid_met os))) ?_
  intro W base args ds gs before hval hW _ hcond _ _ _ _
  exact contract H enc W base args ds gs before hval hW (hcond _ rfl)

theorem saidUpto : Rows.EditMovesUptoSaid :=
  OpenClaim.holds_of_cond 3 Tryz.f3 rfl rfl rfl rfl rfl rfl rfl ⟨rfl, rfl, rfl, rfl, rfl⟩ rfl rfl rfl rfl rfl (by kernel_rfl) Tryz.func3 (by kernel_rfl)
    (of_decide_eq_true (by kernel_rfl)) (by unfold Func.isWrapper; first | (rw [if_pos (by decide +kernel)]; kernel_rfl) | (rw [if_neg (by decide +kernel)]; exact ⟨rfl, rfl⟩))
    (fun os started H enc _ F => by rw [OpenClaim.pre_eq_preRow]; exact liftedUpto os started H enc F)

/-- No parameter wants a stand-in; the program's own looks are off. -/
theorem plain (f : FuncId) (fn : Func) (hf : Tryz.pinned.checked.prog.funcNamed "emendator/emendatorlaw16.EditMoves" = some f) (hfn : Tryz.pinned.checked.prog.funcs[f]? = some fn) :
    true = Tryz.pinned.checked.prog.looks [] ∧ ∀ (j : Nat) t, fn.params[j]? = some t → Tryz.pinned.checked.prog.wantsStandIn t = false := by
  obtain rfl : f = 3 := Option.some.inj ((show Tryz.prog.funcNamed "emendator/emendatorlaw16.EditMoves" = some 3 by kernel_rfl).symm.trans hf) |>.symm
  obtain rfl : fn = Tryz.f3 := (Option.some.inj (Tryz.func3.symm.trans hfn)).symm
  refine ⟨by kernel_rfl, fun j t ht => ?_⟩
  have hall : Tryz.f3.params.toList.all (fun t => Tryz.prog.wantsStandIn t == false) = true := by kernel_rfl
  have := List.all_eq_true.1 hall t (by rw [← Array.mem_def]; exact Array.mem_of_getElem? ht)
  have h : Tryz.prog.wantsStandIn t = false := by simpa using this
  exact h

/-- THE CARD. -/
theorem cardUpto : Rows.EditMovesUptoCardSaid :=
  Claim7.holds_tied_plain_at .later [] _ _ _ _ saidUpto (fun _ h => by cases h) (by kernel_rfl) (fun _ h => by cases h) editMovesUpto_row_tie rfl ⟨rfl, rfl⟩ (by kernel_rfl) rfl plain (by kernel_rfl)

end Go.Proofs.YtajpgjbepebcmaaGreatDoor.editMoves
#print axioms Go.Proofs.YtajpgjbepebcmaaGreatDoor.editMoves.cardUpto
