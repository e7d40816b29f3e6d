/- The walk of the tree's move. -/
import Derived.Test.YtajpgjbepebcmaaGreatDoorV3
/- The walk of the tree's move. -/
namespace Go.Proofs
open Go.RowKit Go.Em

set_option maxRecDepth 100000 in
set_option maxHeartbeats 4000000 in
theorem move_calls {w : World} {tb : Nat} {S S' : TS} {F : Blocks} (h : TMem w tb S F) {a b : Nat} {back : Bool} (hs : S.move a b back = some S') :
    Calls Tryz.prog 169 #[.pointer (some ⟨tb, 0, none⟩), .int .i64 (a : Int), .int .i64 (b : Int), .bool back] w fun e w' => e = .returned (.tuple #[]) ∧ TPost w F w' tb S' := by
  have HGw : Kp _ := ⟨h⟩
  obtain ⟨x, y, x', y', S2, hx, hy, hab, hyl, hyk, hs1, hs2, hc⟩ := move_inv hs
  obtain ⟨⟨R, hmw, hRF⟩, hFlt⟩ := h
  obtain ⟨nb, rx, hnb, hna, hrx, hka, hle, hmax, _⟩ := hmw.node hx
  obtain ⟨nb', ry, hnb', _, hry, hkb, _⟩ := hmw.node hy
  rw [hnb] at hnb'; cases hnb'
  have h0 := hmw.cell0
  rw [hna] at h0
  have hab3 : b * 3 ≠ a * 3 := fun e => hab (Nat.eq_of_mul_eq_mul_right (by decide) e.symm)
  have hab4 : b * 3 + 1 ≠ a * 3 + 1 := fun e => hab3 (by omega)
  have HMw : Kp _ := ⟨hmw⟩
  have HRF : Kp _ := ⟨hRF⟩
  have HX : Kp _ := ⟨hx⟩
  have HY : Kp _ := ⟨hy⟩
  have HRX : Kp _ := ⟨hrx⟩
  have HRY : Kp _ := ⟨hry⟩
  have HNB : Kp _ := ⟨hnb⟩
  have HNA : Kp _ := ⟨hna⟩
  have HS1 : Kp _ := ⟨hs1⟩
  have HS2 : Kp _ := ⟨hs2⟩
  have HAB : Kp _ := ⟨hab⟩
  have HC : Kp _ := ⟨hc⟩
  clear hmw hRF hFlt hs hs1 hs2 hx hy hrx hry hnb hna hc hab
  go_enter Tryz.func169, Tryz.ntmps169
  go_wp2_with fail
  go_quiet (fail)
  go_wp2_with fail
  have HM : Kp (TM (w.drewN nq) tb S R) := ⟨HMw.out.drewN nq⟩
  have HG : Kp (TMem (w.drewN nq) tb S F) := ⟨HGw.out.drewN nq⟩
  have HK0 : Kp (Keep w F (w.drewN nq)) := ⟨(Keep.refl w F).drewN nq⟩
  have HF0 : Kp (∀ b, F b → b < w.heap.size) := ⟨HGw.out.lt⟩
  generalize w.drewN nq = W0 at *
  clear HMw HGw h0
  obtain ⟨nb', rx', hnb', _, hrx', _, _, _, ca0, ca1, ca2⟩ := HM.out.node HX.out
  rw [HNB.out] at hnb'; cases hnb'
  rw [HRX.out] at hrx'; cases hrx'
  obtain ⟨nb', ry', hnb', _, hry', _, _, _, cb0, cb1, cb2⟩ := HM.out.node HY.out
  rw [HNB.out] at hnb'; cases hnb'
  rw [HRY.out] at hry'; cases hry'
  have htb : tb < W0.heap.size := HM.out.lt (.inl rfl)
  have hnbl : nb < W0.heap.size := HM.out.nodes.lt HNB.out
  have htn : nb ≠ tb := fun e => HM.out.nodes.ne_blk HM.out.hd (by decide) (e ▸ HNB.out)
  have hxl := HM.out.lines HRX.out HX.out
  have hxk := HM.out.kids HRX.out HX.out
  have hylS := HM.out.lines HRY.out HY.out
  have hykS := HM.out.kids HRY.out HY.out
  have hxlc := hxl.le
  have hxkc := hxk.le
  have hxlm := hxl.max
  have hxkm := hxk.max
  have hylc := hylS.le
  have hykc := hykS.le
  have hylm := hylS.max
  have hykm := hykS.max
  have HXL : Kp _ := ⟨hxl⟩
  have HXK : Kp _ := ⟨hxk⟩
  have HYL : Kp _ := ⟨hylS⟩
  have HYK : Kp _ := ⟨hykS⟩
  clear hxl hxk hylS hykS
  rcases HC.out with ⟨hk0, rfl, m, z, hml, hz, rfl, rfl⟩ | ⟨hk0, rfl, z, hz, rfl, rfl⟩ | ⟨hk0, rfl, m, z, hml, hz, rfl, rfl⟩ | ⟨hk0, rfl, z, hz, rfl, rfl⟩
  · have hk1 : x.kids.length = 0 := by rw [hk0]; rfl
    have hcell0 := HXL.out.nonnil (by have := (List.getElem?_eq_some_iff.1 hz).1; omega)
    obtain ⟨xb, hxb, hxa⟩ := hcell0
    have hcell := HXL.out.cell hxb (vstr_get hz)
    have hxbl : xb < W0.heap.size := HXL.out.lt hxb
    have hxbt : xb ≠ tb := fun e => HXL.out.ne_blk HM.out.hd (by decide) (e ▸ hxb)
    have hxbn : xb ≠ nb := fun e => HXL.out.types HM.out.nodes (by decide) (e ▸ hxb) HNB.out
    rw [hxa, hml] at ca0
    have hml' : m + 1 ≤ rx.lc := by omega
    have HML : Kp _ := ⟨hml⟩
    have HXB : Kp _ := ⟨hxb⟩
    have HXA : Kp _ := ⟨hxa⟩
    have HZ : Kp _ := ⟨hz⟩
    clear hk0 hml hxb hxa hz ca2 cb2 HC
    go_must ((with_reducible refine (leaf_calls _ _ _ _ _ _ ca1).mono ?_)
             rintro e w' ⟨rfl, rfl⟩)
    go_wp2_with ((with_reducible refine (leaf_calls _ _ _ _ _ _ ca1).mono ?_)
                 rintro e w' ⟨rfl, rfl⟩)
    refine wp_region_plan (fun W => W.cell? ⟨nb, b * 3, none⟩ = some (.slice ry.la y.lines.length ry.lc) ∧ W.cell? ⟨nb, a * 3, none⟩ = some (.slice (some ⟨xb, 0, none⟩) (m + 1) rx.lc) ∧ W.cell? ⟨xb, m, none⟩ = some (.string z))
      [(true, 0), (true, 1), (true, 2), (true, 3), (true, 4), (true, 5), (true, 6), (true, 7), (true, 8), (true, 9), (true, 10), (true, 11), (false, 12), (false, 13)] 14 (by kernel_rfl) (by kernel_rfl) (fun _ _ d _ _ h => by cases d <;> exact h) (by go_simp) ?_
    iterate 12
      (refine' plan_read _ rfl rfl ?_ ?_
       rotate_left
       · (intro W hW; (try dsimp only at hW); go_simp; (try rw [if_pos (by omega)]); try rfl)
       simp only [Act.put, List.setIfInBounds_toArray, List.set_cons_zero, List.set_cons_succ])
    refine plan_do _ rfl ?_
    go_wp2
    refine ⟨by go_simp, ?_⟩
    have hW : (W0.alloc (.cells #[.string z] 9)).drew.heap[W0.heap.size]? = some (.cells #[.string z] 9 (0, 0)) := heap_alloc_new W0 _
    have hK : Keep W0 NoB (W0.alloc (.cells #[.string z] 9)).drew := ((Keep.refl W0 NoB).alloc _).drew
    generalize (W0.alloc (.cells #[.string z] 9)).drew = W at *
    have HSW : Kp _ := ⟨HYL.out.keep hK fun _ _ h => h⟩
    have HW : Kp _ := ⟨hW⟩
    have HKW : Kp _ := ⟨hK⟩
    have hlb : Kp (ry.lb ≠ some W0.heap.size) := ⟨fun e => by have := HYL.out.lt e; omega⟩
    clear hW hK
    refine plan_do _ rfl ?_
    go_wp2_with ((with_reducible refine (ins_str (i := 0) (p := 0) HSW.out (vstr_one _) (Nat.zero_le _) hyl rfl HW.out hlb.out rfl).mono ?_)
                 rintro e w' ⟨a', c', b', rfl, h2, h3, h4⟩)
    have hbt : ¬ Opt ry.lb tb := fun h => HYL.out.ne_blk HM.out.hd (by decide) h
    have hbn : ¬ Opt ry.lb nb := fun h => HYL.out.types HM.out.nodes (by decide) h HNB.out
    have hbx : ¬ Opt ry.lb xb := fun h => HAB.out (HM.out.linj HRX.out HRY.out HXB.out h)
    have e0 := h3.cell (HKW.out.cell cb0 fun h => h) hbn
    have e1 := h3.cell (HKW.out.cell ca0 fun h => h) hbn
    have e2 := h3.cell (HKW.out.cell hcell fun h => h) hbx
    have z0 : ∀ i, w'.frozen? ⟨nb, i, none⟩ = false := fun i => by
      rw [h3.frozen (Nat.lt_of_lt_of_le hnbl HKW.out.size) hbn, HKW.out.frozen hnbl fun h => h]
      exact HM.out.nodes.frozen HNB.out _
    have z1 := z0 (b * 3)
    have z2 := z0 (a * 3)
    refine ⟨⟨e0, e1, e2⟩, plan_end ?_⟩
    simp only [List.drop_succ_cons, List.drop_zero]
    have hfr : Fresh W0 (Opt ry.lb) (Opt b') := fun g hg => by
      rcases h4 g hg with h | h
      · exact .inl h
      · exact .inr (Nat.le_trans HKW.out.size h)
    have hv : (vstr y.lines).take 0 ++ Value.string z :: (vstr y.lines).drop 0 = vstr (z :: y.lines) := by simp [vstr]
    rw [hv] at h2
    have hlen : y.lines.length + 1 = (z :: y.lines).length := by simp
    have hle2 := h2.le
    have hmax2 := h2.max
    rw [hlen] at h2
    have hkw : Keep W0 (Opt ry.lb) w' := (HKW.out.mono (G := Opt ry.lb) fun _ h => h.elim).trans h3 (Fresh.refl _ _)
    have HLEN : Kp _ := ⟨hlen⟩
    have H2 : Kp _ := ⟨h2⟩
    have HKw : Kp _ := ⟨hkw⟩
    have HFR : Kp _ := ⟨hfr⟩
    have hset := (TM.setLines HM.out HY.out HRY.out HNB.out (z :: y.lines) h2 hkw hfr).1
    rw [← hlen] at hset
    have HST : Kp _ := ⟨hset⟩
    have HBX : Kp _ := ⟨hbx⟩
    have HXS : Kp (Sl (w'.setCell ⟨nb, b * 3, none⟩ (.slice a' (y.lines.length + 1) c')) 9 1 rx.la x.lines.length rx.lc (vstr x.lines) rx.lb) := ⟨(HXL.out.keep (hkw.mono (G := fun b => R.nb = some b ∨ ry.lb = some b) fun b hb => .inr hb) fun g hg e => by
      rcases e with e | e
      · exact HXL.out.types HM.out.nodes (by decide) hg e
      · exact HAB.out (HM.out.linj HRX.out HRY.out hg e)).move fun g hg => Below.heap_setCell w' ⟨nb, b * 3, none⟩ _ g (fun e => HXL.out.types HM.out.nodes (by decide) hg (e ▸ HNB.out))⟩
    clear hlen h2 h3 h4 hbt hbn hbx hv hset hkw hfr HSW HW HKW hlb z0 ca0 ca1 cb0 cb1 hcell
    go_wp2_with fail
    have HP : Kp (TPost W0 F ((w'.setCell ⟨nb, b * 3, none⟩ (.slice a' (y.lines.length + 1) c')).setCell ⟨nb, a * 3, none⟩ (.slice (some ⟨xb, 0, none⟩) m rx.lc)) tb _) := ⟨by
      have hlm : (x.lines.take m).length = m := by rw [List.length_take, HML.out]; omega
      have ht := HXS.out.take m (by rw [HML.out]; omega)
      rw [Nat.mul_one] at ht
      have := move_memLines HG.out HM.out HRF.out HX.out HY.out HAB.out HRX.out HRY.out HNB.out (z :: y.lines) H2.out HKw.out HFR.out (x.lines.take m) (W2 := w'.setCell ⟨nb, b * 3, none⟩ (.slice a' (y.lines.length + 1) c')) (by rw [hlm]; simp only [vstr, List.map_take] at ht ⊢; exact ht) (by rw [← HLEN.out]; exact Keep.refl _ _)
      rw [hlm, HXA.out] at this
      exact this⟩
    refine (sum_calls HP.out.mem HS1.out).mono ?_
    rintro e W7 ⟨rfl, p7⟩
    have P7 : Kp _ := ⟨HP.out.trans p7⟩
    clear p7 HP
    go_wp2_with fail
    refine (sum_calls P7.out.mem HS2.out).mono ?_
    rintro e W8 ⟨rfl, p8⟩
    have P8 : Kp _ := ⟨P7.out.trans p8⟩
    clear p8 P7
    go_wp2_with fail
    go_end0
    exact ⟨rfl, TPost.pre HK0.out P8.out (Fresh.refl _ _) HF0.out⟩
  · have hk1 : x.kids.length = 0 := by rw [hk0]; rfl
    have hcell0 := HXL.out.nonnil (by have := (List.getElem?_eq_some_iff.1 hz).1; omega)
    obtain ⟨xb, hxb, hxa⟩ := hcell0
    have hcell := HXL.out.cell hxb (vstr_get hz)
    have hxbl : xb < W0.heap.size := HXL.out.lt hxb
    have hxbt : xb ≠ tb := fun e => HXL.out.ne_blk HM.out.hd (by decide) (e ▸ hxb)
    have hxbn : xb ≠ nb := fun e => HXL.out.types HM.out.nodes (by decide) (e ▸ hxb) HNB.out
    rw [hxa] at ca0
    have hpos : 0 < x.lines.length := (List.getElem?_eq_some_iff.1 hz).1
    have HXB : Kp _ := ⟨hxb⟩
    have HXA : Kp _ := ⟨hxa⟩
    have HZ : Kp _ := ⟨hz⟩
    clear hk0 hxb hxa hz ca2 cb2 HC
    go_must ((with_reducible refine (leaf_calls _ _ _ _ _ _ ca1).mono ?_)
             rintro e w' ⟨rfl, rfl⟩)
    go_wp2_with ((with_reducible refine (leaf_calls _ _ _ _ _ _ ca1).mono ?_)
                 rintro e w' ⟨rfl, rfl⟩)
    refine wp_region_plan (fun W => W.cell? ⟨nb, b * 3, none⟩ = some (.slice ry.la y.lines.length ry.lc) ∧ W.cell? ⟨nb, a * 3, none⟩ = some (.slice (some ⟨xb, 0, none⟩) x.lines.length rx.lc) ∧ W.cell? ⟨xb, 0, none⟩ = some (.string z))
      [(true, 0), (true, 1), (true, 2), (true, 3), (true, 4), (true, 5), (true, 6), (true, 7), (true, 8), (true, 9), (true, 10), (false, 11), (false, 12)] 13 (by kernel_rfl) (by kernel_rfl) (fun _ _ d _ _ h => by cases d <;> exact h) (by go_simp) ?_
    iterate 11
      (refine' plan_read _ rfl rfl ?_ ?_
       rotate_left
       · (intro W hW; (try dsimp only at hW); go_simp; (try rw [if_pos (by omega)]); try rfl)
       simp only [Act.put, List.setIfInBounds_toArray, List.set_cons_zero, List.set_cons_succ])
    refine plan_do _ rfl ?_
    go_wp2
    refine ⟨by go_simp, ?_⟩
    have hW : (W0.alloc (.cells #[.string z] 9)).drew.heap[W0.heap.size]? = some (.cells #[.string z] 9 (0, 0)) := heap_alloc_new W0 _
    have hK : Keep W0 NoB (W0.alloc (.cells #[.string z] 9)).drew := ((Keep.refl W0 NoB).alloc _).drew
    generalize (W0.alloc (.cells #[.string z] 9)).drew = W at *
    have HSW : Kp _ := ⟨HYL.out.keep hK fun _ _ h => h⟩
    have HW : Kp _ := ⟨hW⟩
    have HKW : Kp _ := ⟨hK⟩
    have hlb : Kp (ry.lb ≠ some W0.heap.size) := ⟨fun e => by have := HYL.out.lt e; omega⟩
    clear hW hK
    refine plan_do _ rfl ?_
    have hrd : Rd W 1 (some ⟨W0.heap.size, 0, none⟩) 1 [.string z] := ⟨rfl, fun j u hj => ⟨⟨W0.heap.size, 0, none⟩, rfl, by rw [Addr.add_lit, Nat.zero_add, cell_blk HW.out]; simpa using hj⟩, fun u hu => by simp at hu; subst hu; rfl⟩
    have HRD : Kp _ := ⟨hrd⟩
    clear hrd
    go_wp2_with (at_builtin; go_must (refine wpList_append_rd rfl _ _ 22 rfl 9 _ 1 16 Tryz.underlying22 info_str rfl (by decide) HSW.out rfl HRD.out rfl (by omega) (by omega) ?_); intro a' c' b' w' h2 h3 h4)
    simp only [Act.put, List.setIfInBounds_toArray, List.set_cons_zero, List.set_cons_succ]
    have hbt : ¬ Opt ry.lb tb := fun h => HYL.out.ne_blk HM.out.hd (by decide) h
    have hbn : ¬ Opt ry.lb nb := fun h => HYL.out.types HM.out.nodes (by decide) h HNB.out
    have hbx : ¬ Opt ry.lb xb := fun h => HAB.out (HM.out.linj HRX.out HRY.out HXB.out h)
    have e0 := h3.cell (HKW.out.cell cb0 fun h => h) hbn
    have e1 := h3.cell (HKW.out.cell ca0 fun h => h) hbn
    have e2 := h3.cell (HKW.out.cell hcell fun h => h) hbx
    have z0 : ∀ i, w'.frozen? ⟨nb, i, none⟩ = false := fun i => by
      rw [h3.frozen (Nat.lt_of_lt_of_le hnbl HKW.out.size) hbn, HKW.out.frozen hnbl fun h => h]
      exact HM.out.nodes.frozen HNB.out _
    have z1 := z0 (b * 3)
    have z2 := z0 (a * 3)
    refine ⟨⟨e0, e1, e2⟩, plan_end ?_⟩
    simp only [List.drop_succ_cons, List.drop_zero]
    have hfr : Fresh W0 (Opt ry.lb) (Opt b') := fun g hg => by
      rcases h4 g hg with h | h
      · exact .inl h
      · exact .inr (Nat.le_trans HKW.out.size h)
    have hv : vstr y.lines ++ [.string z] = vstr (y.lines ++ [z]) := by simp [vstr]
    rw [hv] at h2
    have hlen : y.lines.length + 1 = (y.lines ++ [z]).length := by simp
    have hle2 := h2.le
    have hmax2 := h2.max
    rw [hlen] at h2
    have hkw : Keep W0 (Opt ry.lb) w' := (HKW.out.mono (G := Opt ry.lb) fun _ h => h.elim).trans h3 (Fresh.refl _ _)
    have HLEN : Kp _ := ⟨hlen⟩
    have H2 : Kp _ := ⟨h2⟩
    have HKw : Kp _ := ⟨hkw⟩
    have HFR : Kp _ := ⟨hfr⟩
    have hset := (TM.setLines HM.out HY.out HRY.out HNB.out (y.lines ++ [z]) h2 hkw hfr).1
    rw [← hlen] at hset
    have HST : Kp _ := ⟨hset⟩
    have HBX : Kp _ := ⟨hbx⟩
    have HXS : Kp (Sl (w'.setCell ⟨nb, b * 3, none⟩ (.slice a' (y.lines.length + 1) c')) 9 1 rx.la x.lines.length rx.lc (vstr x.lines) rx.lb) := ⟨(HXL.out.keep (hkw.mono (G := fun b => R.nb = some b ∨ ry.lb = some b) fun b hb => .inr hb) fun g hg e => by
      rcases e with e | e
      · exact HXL.out.types HM.out.nodes (by decide) hg e
      · exact HAB.out (HM.out.linj HRX.out HRY.out hg e)).move fun g hg => Below.heap_setCell w' ⟨nb, b * 3, none⟩ _ g (fun e => HXL.out.types HM.out.nodes (by decide) hg (e ▸ HNB.out))⟩
    clear hlen h2 h3 h4 hbt hbn hbx hv hset hkw hfr HSW HW HKW hlb z0 ca0 ca1 cb0 cb1 hcell HRD
    go_wp2_with fail
    have hdx := HXS.out
    rw [HXA.out] at hdx
    have q1 : (w'.setCell ⟨nb, b * 3, none⟩ (.slice a' (y.lines.length + 1) c')).cell? ⟨nb, a * 3, none⟩ = some (.slice (some ⟨xb, 0, none⟩) x.lines.length rx.lc) := by go_simp
    have q2 : (w'.setCell ⟨nb, b * 3, none⟩ (.slice a' (y.lines.length + 1) c')).frozen? ⟨nb, a * 3, none⟩ = false := HST.out.nodes.frozen HNB.out _
    refine (del_str (i := 0) (p := 0) (q := 1) hdx hpos rfl rfl).mono ?_
    rintro e W2 ⟨rfl, g1, g2⟩
    have hbn2 : ¬ Opt rx.lb nb := fun h => HXL.out.types HM.out.nodes (by decide) h HNB.out
    have q3 := g2.cell q1 hbn2
    have q4 : W2.frozen? ⟨nb, a * 3, none⟩ = false := by
      rw [g2.frozen (HST.out.nodes.lt HNB.out) hbn2]; exact q2
    have HP : Kp (TPost W0 F (W2.setCell ⟨nb, a * 3, none⟩ (.slice (some ⟨xb, 0, none⟩) (x.lines.length - 1) rx.lc)) tb _) := ⟨by
      have hlm : (x.lines.eraseIdx 0).length = x.lines.length - 1 := by rw [List.length_eraseIdx_of_lt hpos]
      have := move_memLines HG.out HM.out HRF.out HX.out HY.out HAB.out HRX.out HRY.out HNB.out (y.lines ++ [z]) H2.out HKw.out HFR.out (x.lines.eraseIdx 0) (W2 := W2) (by rw [hlm, HXA.out]; exact g1) (by rw [← HLEN.out]; exact g2)
      rw [hlm, HXA.out] at this
      exact this⟩
    have hle3 : x.lines.length - 1 ≤ rx.lc := by omega
    clear g1 g2 hbn2 q1 q2 e0 e1 e2 z1 z2 hdx
    go_wp2_with fail
    refine (sum_calls HP.out.mem HS1.out).mono ?_
    rintro e W7 ⟨rfl, p7⟩
    have P7 : Kp _ := ⟨HP.out.trans p7⟩
    clear p7 HP
    go_wp2_with fail
    refine (sum_calls P7.out.mem HS2.out).mono ?_
    rintro e W8 ⟨rfl, p8⟩
    have P8 : Kp _ := ⟨P7.out.trans p8⟩
    clear p8 P7
    go_wp2_with fail
    go_end0
    exact ⟨rfl, TPost.pre HK0.out P8.out (Fresh.refl _ _) HF0.out⟩
  · have hk1 : x.kids.length ≠ 0 := by rw [Ne, List.length_eq_zero_iff]; exact hk0
    have hcell0 := HXK.out.nonnil (by have := (List.getElem?_eq_some_iff.1 hz).1; omega)
    obtain ⟨xb, hxb, hxa⟩ := hcell0
    have hcell := HXK.out.cell hxb (vint_get hz)
    have hxbl : xb < W0.heap.size := HXK.out.lt hxb
    have hxbt : xb ≠ tb := fun e => HXK.out.ne_blk HM.out.hd (by decide) (e ▸ hxb)
    have hxbn : xb ≠ nb := fun e => HXK.out.types HM.out.nodes (by decide) (e ▸ hxb) HNB.out
    rw [hxa, hml] at ca1
    have hml' : m + 1 ≤ rx.kc := by omega
    have HML : Kp _ := ⟨hml⟩
    have HXB : Kp _ := ⟨hxb⟩
    have HXA : Kp _ := ⟨hxa⟩
    have HZ : Kp _ := ⟨hz⟩
    clear hk0 hml hxb hxa hz ca2 cb2 HC
    go_must ((with_reducible refine (leaf_calls _ _ _ _ _ _ ca1).mono ?_)
             rintro e w' ⟨rfl, rfl⟩)
    go_wp2_with ((with_reducible refine (leaf_calls _ _ _ _ _ _ ca1).mono ?_)
                 rintro e w' ⟨rfl, rfl⟩)
    refine wp_region_plan (fun W => W.cell? ⟨nb, b * 3 + 1, none⟩ = some (.slice ry.ka y.kids.length ry.kc) ∧ W.cell? ⟨nb, a * 3 + 1, none⟩ = some (.slice (some ⟨xb, 0, none⟩) (m + 1) rx.kc) ∧ W.cell? ⟨xb, m, none⟩ = some (.int .i64 (z : Int)))
      [(true, 0), (true, 1), (true, 2), (true, 3), (true, 4), (true, 5), (true, 6), (true, 7), (true, 8), (true, 9), (true, 10), (true, 11), (false, 12), (false, 13)] 14 (by kernel_rfl) (by kernel_rfl) (fun _ _ d _ _ h => by cases d <;> exact h) (by go_simp) ?_
    iterate 12
      (refine' plan_read _ rfl rfl ?_ ?_
       rotate_left
       · (intro W hW; (try dsimp only at hW); go_simp; (try rw [if_pos (by omega)]); try rfl)
       simp only [Act.put, List.setIfInBounds_toArray, List.set_cons_zero, List.set_cons_succ])
    refine plan_do _ rfl ?_
    go_wp2
    refine ⟨by go_simp, ?_⟩
    have hW : (W0.alloc (.cells #[.int .i64 (z : Int)] 3)).drew.heap[W0.heap.size]? = some (.cells #[.int .i64 (z : Int)] 3 (0, 0)) := heap_alloc_new W0 _
    have hK : Keep W0 NoB (W0.alloc (.cells #[.int .i64 (z : Int)] 3)).drew := ((Keep.refl W0 NoB).alloc _).drew
    generalize (W0.alloc (.cells #[.int .i64 (z : Int)] 3)).drew = W at *
    have HSW : Kp _ := ⟨HYK.out.keep hK fun _ _ h => h⟩
    have HW : Kp _ := ⟨hW⟩
    have HKW : Kp _ := ⟨hK⟩
    have hlb : Kp (ry.kb ≠ some W0.heap.size) := ⟨fun e => by have := HYK.out.lt e; omega⟩
    clear hW hK
    refine plan_do _ rfl ?_
    go_wp2_with ((with_reducible refine (ins_int (i := 0) (p := 0) HSW.out (vint_one _) (Nat.zero_le _) hyk rfl HW.out hlb.out rfl).mono ?_)
                 rintro e w' ⟨a', c', b', rfl, h2, h3, h4⟩)
    have hbt : ¬ Opt ry.kb tb := fun h => HYK.out.ne_blk HM.out.hd (by decide) h
    have hbn : ¬ Opt ry.kb nb := fun h => HYK.out.types HM.out.nodes (by decide) h HNB.out
    have hbx : ¬ Opt ry.kb xb := fun h => HAB.out (HM.out.kinj HRX.out HRY.out HXB.out h)
    have e0 := h3.cell (HKW.out.cell cb1 fun h => h) hbn
    have e1 := h3.cell (HKW.out.cell ca1 fun h => h) hbn
    have e2 := h3.cell (HKW.out.cell hcell fun h => h) hbx
    have z0 : ∀ i, w'.frozen? ⟨nb, i, none⟩ = false := fun i => by
      rw [h3.frozen (Nat.lt_of_lt_of_le hnbl HKW.out.size) hbn, HKW.out.frozen hnbl fun h => h]
      exact HM.out.nodes.frozen HNB.out _
    have z1 := z0 (b * 3 + 1)
    have z2 := z0 (a * 3 + 1)
    refine ⟨⟨e0, e1, e2⟩, plan_end ?_⟩
    simp only [List.drop_succ_cons, List.drop_zero]
    have hfr : Fresh W0 (Opt ry.kb) (Opt b') := fun g hg => by
      rcases h4 g hg with h | h
      · exact .inl h
      · exact .inr (Nat.le_trans HKW.out.size h)
    have hv : (vint y.kids).take 0 ++ Value.int .i64 (z : Int) :: (vint y.kids).drop 0 = vint (z :: y.kids) := by simp [vint]
    rw [hv] at h2
    have hlen : y.kids.length + 1 = (z :: y.kids).length := by simp
    have hle2 := h2.le
    have hmax2 := h2.max
    rw [hlen] at h2
    have hkw : Keep W0 (Opt ry.kb) w' := (HKW.out.mono (G := Opt ry.kb) fun _ h => h.elim).trans h3 (Fresh.refl _ _)
    have HLEN : Kp _ := ⟨hlen⟩
    have H2 : Kp _ := ⟨h2⟩
    have HKw : Kp _ := ⟨hkw⟩
    have HFR : Kp _ := ⟨hfr⟩
    have hset := (TM.setKids HM.out HY.out HRY.out HNB.out (z :: y.kids) h2 hkw hfr).1
    rw [← hlen] at hset
    have HST : Kp _ := ⟨hset⟩
    have HBX : Kp _ := ⟨hbx⟩
    have HXS : Kp (Sl (w'.setCell ⟨nb, b * 3 + 1, none⟩ (.slice a' (y.kids.length + 1) c')) 3 1 rx.ka x.kids.length rx.kc (vint x.kids) rx.kb) := ⟨(HXK.out.keep (hkw.mono (G := fun b => R.nb = some b ∨ ry.kb = some b) fun b hb => .inr hb) fun g hg e => by
      rcases e with e | e
      · exact HXK.out.types HM.out.nodes (by decide) hg e
      · exact HAB.out (HM.out.kinj HRX.out HRY.out hg e)).move fun g hg => Below.heap_setCell w' ⟨nb, b * 3 + 1, none⟩ _ g (fun e => HXK.out.types HM.out.nodes (by decide) hg (e ▸ HNB.out))⟩
    clear hlen h2 h3 h4 hbt hbn hbx hv hset hkw hfr HSW HW HKW hlb z0 ca0 ca1 cb0 cb1 hcell
    go_wp2_with fail
    have HP : Kp (TPost W0 F ((w'.setCell ⟨nb, b * 3 + 1, none⟩ (.slice a' (y.kids.length + 1) c')).setCell ⟨nb, a * 3 + 1, none⟩ (.slice (some ⟨xb, 0, none⟩) m rx.kc)) tb _) := ⟨by
      have hlm : (x.kids.take m).length = m := by rw [List.length_take, HML.out]; omega
      have ht := HXS.out.take m (by rw [HML.out]; omega)
      rw [Nat.mul_one] at ht
      have := move_memKids HG.out HM.out HRF.out HX.out HY.out HAB.out HRX.out HRY.out HNB.out (z :: y.kids) H2.out HKw.out HFR.out (x.kids.take m) (W2 := w'.setCell ⟨nb, b * 3 + 1, none⟩ (.slice a' (y.kids.length + 1) c')) (by rw [hlm]; simp only [vint, List.map_take] at ht ⊢; exact ht) (by rw [← HLEN.out]; exact Keep.refl _ _)
      rw [hlm, HXA.out] at this
      exact this⟩
    refine (sum_calls HP.out.mem HS1.out).mono ?_
    rintro e W7 ⟨rfl, p7⟩
    have P7 : Kp _ := ⟨HP.out.trans p7⟩
    clear p7 HP
    go_wp2_with fail
    refine (sum_calls P7.out.mem HS2.out).mono ?_
    rintro e W8 ⟨rfl, p8⟩
    have P8 : Kp _ := ⟨P7.out.trans p8⟩
    clear p8 P7
    go_wp2_with fail
    go_end0
    exact ⟨rfl, TPost.pre HK0.out P8.out (Fresh.refl _ _) HF0.out⟩
  · have hk1 : x.kids.length ≠ 0 := by rw [Ne, List.length_eq_zero_iff]; exact hk0
    have hcell0 := HXK.out.nonnil (by have := (List.getElem?_eq_some_iff.1 hz).1; omega)
    obtain ⟨xb, hxb, hxa⟩ := hcell0
    have hcell := HXK.out.cell hxb (vint_get hz)
    have hxbl : xb < W0.heap.size := HXK.out.lt hxb
    have hxbt : xb ≠ tb := fun e => HXK.out.ne_blk HM.out.hd (by decide) (e ▸ hxb)
    have hxbn : xb ≠ nb := fun e => HXK.out.types HM.out.nodes (by decide) (e ▸ hxb) HNB.out
    rw [hxa] at ca1
    have hpos : 0 < x.kids.length := (List.getElem?_eq_some_iff.1 hz).1
    have HXB : Kp _ := ⟨hxb⟩
    have HXA : Kp _ := ⟨hxa⟩
    have HZ : Kp _ := ⟨hz⟩
    clear hk0 hxb hxa hz ca2 cb2 HC
    go_must ((with_reducible refine (leaf_calls _ _ _ _ _ _ ca1).mono ?_)
             rintro e w' ⟨rfl, rfl⟩)
    go_wp2_with ((with_reducible refine (leaf_calls _ _ _ _ _ _ ca1).mono ?_)
                 rintro e w' ⟨rfl, rfl⟩)
    refine wp_region_plan (fun W => W.cell? ⟨nb, b * 3 + 1, none⟩ = some (.slice ry.ka y.kids.length ry.kc) ∧ W.cell? ⟨nb, a * 3 + 1, none⟩ = some (.slice (some ⟨xb, 0, none⟩) x.kids.length rx.kc) ∧ W.cell? ⟨xb, 0, none⟩ = some (.int .i64 (z : Int)))
      [(true, 0), (true, 1), (true, 2), (true, 3), (true, 4), (true, 5), (true, 6), (true, 7), (true, 8), (true, 9), (true, 10), (false, 11), (false, 12)] 13 (by kernel_rfl) (by kernel_rfl) (fun _ _ d _ _ h => by cases d <;> exact h) (by go_simp) ?_
    iterate 11
      (refine' plan_read _ rfl rfl ?_ ?_
       rotate_left
       · (intro W hW; (try dsimp only at hW); go_simp; (try rw [if_pos (by omega)]); try rfl)
       simp only [Act.put, List.setIfInBounds_toArray, List.set_cons_zero, List.set_cons_succ])
    refine plan_do _ rfl ?_
    go_wp2
    refine ⟨by go_simp, ?_⟩
    have hW : (W0.alloc (.cells #[.int .i64 (z : Int)] 3)).drew.heap[W0.heap.size]? = some (.cells #[.int .i64 (z : Int)] 3 (0, 0)) := heap_alloc_new W0 _
    have hK : Keep W0 NoB (W0.alloc (.cells #[.int .i64 (z : Int)] 3)).drew := ((Keep.refl W0 NoB).alloc _).drew
    generalize (W0.alloc (.cells #[.int .i64 (z : Int)] 3)).drew = W at *
    have HSW : Kp _ := ⟨HYK.out.keep hK fun _ _ h => h⟩
    have HW : Kp _ := ⟨hW⟩
    have HKW : Kp _ := ⟨hK⟩
    have hlb : Kp (ry.kb ≠ some W0.heap.size) := ⟨fun e => by have := HYK.out.lt e; omega⟩
    clear hW hK
    refine plan_do _ rfl ?_
    have hrd : Rd W 1 (some ⟨W0.heap.size, 0, none⟩) 1 [.int .i64 (z : Int)] := ⟨rfl, fun j u hj => ⟨⟨W0.heap.size, 0, none⟩, rfl, by rw [Addr.add_lit, Nat.zero_add, cell_blk HW.out]; simpa using hj⟩, fun u hu => by simp at hu; subst hu; rfl⟩
    have HRD : Kp _ := ⟨hrd⟩
    clear hrd
    go_wp2_with (at_builtin; go_must (refine wpList_append_rd rfl _ _ 79 rfl 3 _ 1 8 Tryz.underlying79 info_int rfl (by decide) HSW.out rfl HRD.out rfl (by omega) (by omega) ?_); intro a' c' b' w' h2 h3 h4)
    simp only [Act.put, List.setIfInBounds_toArray, List.set_cons_zero, List.set_cons_succ]
    have hbt : ¬ Opt ry.kb tb := fun h => HYK.out.ne_blk HM.out.hd (by decide) h
    have hbn : ¬ Opt ry.kb nb := fun h => HYK.out.types HM.out.nodes (by decide) h HNB.out
    have hbx : ¬ Opt ry.kb xb := fun h => HAB.out (HM.out.kinj HRX.out HRY.out HXB.out h)
    have e0 := h3.cell (HKW.out.cell cb1 fun h => h) hbn
    have e1 := h3.cell (HKW.out.cell ca1 fun h => h) hbn
    have e2 := h3.cell (HKW.out.cell hcell fun h => h) hbx
    have z0 : ∀ i, w'.frozen? ⟨nb, i, none⟩ = false := fun i => by
      rw [h3.frozen (Nat.lt_of_lt_of_le hnbl HKW.out.size) hbn, HKW.out.frozen hnbl fun h => h]
      exact HM.out.nodes.frozen HNB.out _
    have z1 := z0 (b * 3 + 1)
    have z2 := z0 (a * 3 + 1)
    refine ⟨⟨e0, e1, e2⟩, plan_end ?_⟩
    simp only [List.drop_succ_cons, List.drop_zero]
    have hfr : Fresh W0 (Opt ry.kb) (Opt b') := fun g hg => by
      rcases h4 g hg with h | h
      · exact .inl h
      · exact .inr (Nat.le_trans HKW.out.size h)
    have hv : vint y.kids ++ [.int .i64 (z : Int)] = vint (y.kids ++ [z]) := by simp [vint]
    rw [hv] at h2
    have hlen : y.kids.length + 1 = (y.kids ++ [z]).length := by simp
    have hle2 := h2.le
    have hmax2 := h2.max
    rw [hlen] at h2
    have hkw : Keep W0 (Opt ry.kb) w' := (HKW.out.mono (G := Opt ry.kb) fun _ h => h.elim).trans h3 (Fresh.refl _ _)
    have HLEN : Kp _ := ⟨hlen⟩
    have H2 : Kp _ := ⟨h2⟩
    have HKw : Kp _ := ⟨hkw⟩
    have HFR : Kp _ := ⟨hfr⟩
    have hset := (TM.setKids HM.out HY.out HRY.out HNB.out (y.kids ++ [z]) h2 hkw hfr).1
    rw [← hlen] at hset
    have HST : Kp _ := ⟨hset⟩
    have HBX : Kp _ := ⟨hbx⟩
    have HXS : Kp (Sl (w'.setCell ⟨nb, b * 3 + 1, none⟩ (.slice a' (y.kids.length + 1) c')) 3 1 rx.ka x.kids.length rx.kc (vint x.kids) rx.kb) := ⟨(HXK.out.keep (hkw.mono (G := fun b => R.nb = some b ∨ ry.kb = some b) fun b hb => .inr hb) fun g hg e => by
      rcases e with e | e
      · exact HXK.out.types HM.out.nodes (by decide) hg e
      · exact HAB.out (HM.out.kinj HRX.out HRY.out hg e)).move fun g hg => Below.heap_setCell w' ⟨nb, b * 3 + 1, none⟩ _ g (fun e => HXK.out.types HM.out.nodes (by decide) hg (e ▸ HNB.out))⟩
    clear hlen h2 h3 h4 hbt hbn hbx hv hset hkw hfr HSW HW HKW hlb z0 ca0 ca1 cb0 cb1 hcell HRD
    go_wp2_with fail
    have hdx := HXS.out
    rw [HXA.out] at hdx
    have q1 : (w'.setCell ⟨nb, b * 3 + 1, none⟩ (.slice a' (y.kids.length + 1) c')).cell? ⟨nb, a * 3 + 1, none⟩ = some (.slice (some ⟨xb, 0, none⟩) x.kids.length rx.kc) := by go_simp
    have q2 : (w'.setCell ⟨nb, b * 3 + 1, none⟩ (.slice a' (y.kids.length + 1) c')).frozen? ⟨nb, a * 3 + 1, none⟩ = false := HST.out.nodes.frozen HNB.out _
    refine (del_int (i := 0) (p := 0) (q := 1) hdx hpos rfl rfl).mono ?_
    rintro e W2 ⟨rfl, g1, g2⟩
    have hbn2 : ¬ Opt rx.kb nb := fun h => HXK.out.types HM.out.nodes (by decide) h HNB.out
    have q3 := g2.cell q1 hbn2
    have q4 : W2.frozen? ⟨nb, a * 3 + 1, none⟩ = false := by
      rw [g2.frozen (HST.out.nodes.lt HNB.out) hbn2]; exact q2
    have HP : Kp (TPost W0 F (W2.setCell ⟨nb, a * 3 + 1, none⟩ (.slice (some ⟨xb, 0, none⟩) (x.kids.length - 1) rx.kc)) tb _) := ⟨by
      have hlm : (x.kids.eraseIdx 0).length = x.kids.length - 1 := by rw [List.length_eraseIdx_of_lt hpos]
      have := move_memKids HG.out HM.out HRF.out HX.out HY.out HAB.out HRX.out HRY.out HNB.out (y.kids ++ [z]) H2.out HKw.out HFR.out (x.kids.eraseIdx 0) (W2 := W2) (by rw [hlm, HXA.out]; exact g1) (by rw [← HLEN.out]; exact g2)
      rw [hlm, HXA.out] at this
      exact this⟩
    have hle3 : x.kids.length - 1 ≤ rx.kc := by omega
    clear g1 g2 hbn2 q1 q2 e0 e1 e2 z1 z2 hdx
    go_wp2_with fail
    refine (sum_calls HP.out.mem HS1.out).mono ?_
    rintro e W7 ⟨rfl, p7⟩
    have P7 : Kp _ := ⟨HP.out.trans p7⟩
    clear p7 HP
    go_wp2_with fail
    refine (sum_calls P7.out.mem HS2.out).mono ?_
    rintro e W8 ⟨rfl, p8⟩
    have P8 : Kp _ := ⟨P7.out.trans p8⟩
    clear p8 P7
    go_wp2_with fail
    go_end0
    exact ⟨rfl, TPost.pre HK0.out P8.out (Fresh.refl _ _) HF0.out⟩

end Go.Proofs

/- The walks of the tree's mend. -/
namespace Go.Proofs
open Go.RowKit Go.Em

set_option maxRecDepth 100000 in
set_option maxHeartbeats 1000000 in
theorem mend1_calls {w : World} {tb : Nat} {S : TS} {F : Blocks} (h : TMem w tb S F) {kb xb : Nat} {kids : List Nat} {va : Option Addr} {vc : Nat} {vb : Option Nat} (hks : Sl w 3 1 va kids.length vc (vint kids) vb) {t1 t2 : Nat}
    (hkb : w.heap[kb]? = some (.cells #[.slice va kids.length vc] t1 (0, 0))) (hxb : w.heap[xb]? = some (.cells #[.pointer (some ⟨tb, 0, none⟩)] t2 (0, 0))) {i : Int} {s : Nat}
    (hi : ((i < 0 ∨ (kids.length : Int) ≤ i) ∧ s = 0) ∨ ∃ j : Nat, i = (j : Int) ∧ j < kids.length ∧ kidSize S.nodes kids j = some s) :
    Calls Tryz.prog 168 #[.int .i64 i, .pointer (some ⟨kb, 0, none⟩), .pointer (some ⟨xb, 0, none⟩)] w fun e w' => e = .returned (.int .i64 (s : Int)) ∧ ∃ q, w' = w.drewN q := by
  have k0 : w.cell? ⟨kb, 0, none⟩ = some (.slice va kids.length vc) := by rw [cell_blk hkb]; rfl
  have x0 : w.cell? ⟨xb, 0, none⟩ = some (.pointer (some ⟨tb, 0, none⟩)) := by rw [cell_blk hxb]; rfl
  have hkl := hks.le
  have hkm := hks.max
  have HKS : Kp _ := ⟨hks⟩
  have HG : Kp _ := ⟨h⟩
  clear hkb hxb hks h
  rcases hi with ⟨h1, rfl⟩ | ⟨j, rfl, hj, hs⟩
  · go_enter Tryz.func168, Tryz.ntmps168
    go_wp2_with fail
    all_goals
      go_ret
      exact ⟨rfl, 0, rfl⟩
  · obtain ⟨R, hm, -⟩ := HG.out.ex
    unfold kidSize at hs
    rw [List.getElem?_eq_getElem hj] at hs
    dsimp only at hs
    split at hs
    · cases hs
    rename_i y hy
    split at hs
    case isFalse => cases hs
    rename_i h8
    obtain rfl := Option.some.inj hs
    obtain ⟨nb, r, hnb, hna, hr, hkl2, hle, hmax, c0, c1, -⟩ := hm.node hy
    have h0 := hm.cell0
    rw [hna] at h0
    obtain ⟨g, hg, hga⟩ := HKS.out.nonnil (by omega)
    have ck := HKS.out.cell hg (vint_get (List.getElem?_eq_getElem hj))
    rw [hga] at k0
    generalize kids[j] = kid at *
    have hl1 : y.lines.length < 1048576 := by unfold ND.size at h8; omega
    have hl2 : y.kids.length < 1048576 := by unfold ND.size at h8; omega
    have HSZ : Kp (y.lines.length + y.kids.length = y.size) := ⟨rfl⟩
    have hj2 : ¬ ((kids.length : Int) ≤ (j : Int)) := by omega
    clear hm hnb hna hr hs hg hga hy
    go_enter Tryz.func168, Tryz.ntmps168
    go_wp2_with fail
    refine wp_region_plan (fun W => W.cell? ⟨tb, 0, none⟩ = some (.slice (some ⟨nb, 0, none⟩) S.nodes.length R.nc) ∧ W.cell? ⟨xb, 0, none⟩ = some (.pointer (some ⟨tb, 0, none⟩)) ∧ W.cell? ⟨kb, 0, none⟩ = some (.slice (some ⟨g, 0, none⟩) kids.length vc) ∧ W.cell? ⟨g, j, none⟩ = some (.int .i64 (kid : Int)))
      [(true, 0), (true, 1), (true, 2), (true, 3), (true, 4), (true, 5), (true, 6), (true, 7), (true, 8), (false, 9)] 10 (by kernel_rfl) (by kernel_rfl) (fun _ _ d _ _ h => by cases d <;> exact h) (by go_simp) ?_
    iterate 9
      (refine' plan_read _ rfl rfl ?_ ?_
       rotate_left
       · (intro W hW; (try dsimp only at hW); go_simp; try rfl)
       simp only [Act.put, List.setIfInBounds_toArray, List.set_cons_zero, List.set_cons_succ])
    refine plan_do _ rfl ?_
    go_wp2_with fail
    refine (size_calls nb (kid * 3) y.kids.length r.kc y.lines.length r.lc r.ka r.la w.drew c1 c0 hl2 hl1).mono ?_
    rintro e w' ⟨rfl, q, rfl⟩
    go_wp2_with fail
    refine ⟨by go_simp, plan_end ?_⟩
    try simp only [List.drop_succ_cons, List.drop_zero]
    go_wp2_with fail
    go_ret
    have hq := HSZ.out
    exact ⟨by rw [show ((y.lines.length : Int) + y.kids.length) = ((y.size : Nat) : Int) by omega]; rfl, 1 + q, rfl⟩

/-- What mend asks of its kids' sizes. -/
def SizeIs (N : List ND) (kids : List Nat) (i : Int) (s : Nat) : Prop := ((i < 0 ∨ (kids.length : Int) ≤ i) ∧ s = 0) ∨ ∃ j : Nat, i = (j : Int) ∧ j < kids.length ∧ kidSize N kids j = some s
theorem sizeIs {N : List ND} {kids : List Nat} {n s : Nat} {i : Int} (hi : i = (n : Int)) (h : kidSize N kids n = some s) : SizeIs N kids i s := by
  subst hi
  by_cases hn : n < kids.length
  · exact .inr ⟨n, rfl, hn, h⟩
  · refine .inl ⟨.inr (by omega), ?_⟩
    unfold kidSize at h
    rw [List.getElem?_eq_none (by omega)] at h
    exact (Option.some.inj h).symm

theorem mend_inv {S S' : TS} {k n : Nat} (h : S.mend k n = some S') :
    ∃ v s0, S.nodes[k]? = some v ∧ SizeIs S.nodes v.kids (n : Int) s0 ∧ ((4 ≤ s0 ∧ S' = S) ∨ (¬ 4 ≤ s0 ∧ ∃ s1, SizeIs S.nodes v.kids ((n : Int) - 1) s1 ∧
      ((4 < s1 ∧ 0 < n ∧ ∃ a b, v.kids[n - 1]? = some a ∧ v.kids[n]? = some b ∧ S.move a b true = some S') ∨ (¬ 4 < s1 ∧ ∃ s2, SizeIs S.nodes v.kids ((n : Int) + 1) s2 ∧
        ((4 < s2 ∧ ∃ a b, v.kids[n + 1]? = some a ∧ v.kids[n]? = some b ∧ S.move a b false = some S') ∨ (¬ 4 < s2 ∧ ((0 < n ∧ S.merge k (n - 1) = some S') ∨ (n = 0 ∧ S.merge k n = some S')))))))) := by
  unfold TS.mend at h
  split at h
  · cases h
  rename_i v hv
  split at h
  · cases h
  rename_i s0 h0
  refine ⟨v, s0, hv, sizeIs rfl h0, ?_⟩
  split at h
  · rename_i h4; exact .inl ⟨h4, (Option.some.inj h).symm⟩
  rename_i h4
  refine .inr ⟨h4, ?_⟩
  split at h
  · cases h
  rename_i s1 h1
  have hs1 : SizeIs S.nodes v.kids ((n : Int) - 1) s1 := by
    split at h1
    · rename_i hn; subst hn; exact .inl ⟨.inl (by omega), (Option.some.inj h1).symm⟩
    · exact sizeIs (by omega) h1
  refine ⟨s1, hs1, ?_⟩
  split at h
  · rename_i h5
    have hn : 0 < n := by
      rcases Nat.eq_zero_or_pos n with e | e
      · rw [if_pos e] at h1; cases h1; omega
      · exact e
    split at h
    · rename_i a b ha hb; exact .inl ⟨h5, hn, a, b, ha, hb, h⟩
    · cases h
  · rename_i h5
    refine .inr ⟨h5, ?_⟩
    split at h
    · cases h
    rename_i s2 h2
    refine ⟨s2, sizeIs (by omega) h2, ?_⟩
    split at h
    · rename_i h6
      split at h
      · rename_i a b ha hb; exact .inl ⟨h6, a, b, ha, hb, h⟩
      · cases h
    · rename_i h6
      refine .inr ⟨h6, ?_⟩
      split at h
      · rename_i hn; exact .inl ⟨hn, h⟩
      · rename_i hn; exact .inr ⟨by omega, h⟩

/-- What stays while mend asks. -/
structure MendW (w : World) (tb : Nat) (S : TS) (F : Blocks) (kids : List Nat) (va : Option Addr) (vc : Nat) (vb : Option Nat) (W : World) : Prop where
  mem : TMem W tb S F
  sl : Sl W 3 1 va kids.length vc (vint kids) vb
  kb : W.heap[w.heap.size + 1]? = some (.cells #[.slice va kids.length vc] 79 (0, 0))
  xb : W.heap[w.heap.size]? = some (.cells #[.pointer (some ⟨tb, 0, none⟩)] 39 (0, 0))
  keep : Keep w F W
  old : ∀ b, F b → b < w.heap.size
theorem MendW.drewN {w : World} {tb : Nat} {S : TS} {F : Blocks} {kids : List Nat} {va : Option Addr} {vc : Nat} {vb : Option Nat} {W : World} (h : MendW w tb S F kids va vc vb W) (q : Nat) : MendW w tb S F kids va vc vb (W.drewN q) :=
  ⟨h.mem.drewN q, h.sl.keep ((Keep.refl W NoB).drewN q) fun _ _ h => h, h.kb, h.xb, h.keep.drewN q, h.old⟩
theorem MendW.drew {w : World} {tb : Nat} {S : TS} {F : Blocks} {kids : List Nat} {va : Option Addr} {vc : Nat} {vb : Option Nat} {W : World} (h : MendW w tb S F kids va vc vb W) : MendW w tb S F kids va vc vb W.drew := h.drewN 1
theorem MendW.post {w : World} {tb : Nat} {S : TS} {F : Blocks} {kids : List Nat} {va : Option Addr} {vc : Nat} {vb : Option Nat} {W : World} (h : MendW w tb S F kids va vc vb W) : TPost w F W tb S :=
  TPost.pre h.keep (TPost.refl h.mem) (Fresh.refl _ _) h.old
theorem mendW_start {w : World} {tb : Nat} {S : TS} {F : Blocks} {kids : List Nat} {va : Option Addr} {vc : Nat} {vb : Option Nat} (h : TMem w tb S F) (hs : Sl w 3 1 va kids.length vc (vint kids) vb) (o1 o2 : Obj)
    (e1 : o1 = .cells #[.pointer (some ⟨tb, 0, none⟩)] 39 (0, 0) := by rfl) (e2 : o2 = .cells #[.slice va kids.length vc] 79 (0, 0) := by rfl) : MendW w tb S F kids va vc vb ((w.alloc o1).alloc o2) := by
  subst e1; subst e2
  have hk : Keep w NoB ((w.alloc (.cells #[.pointer (some ⟨tb, 0, none⟩)] 39 (0, 0))).alloc (.cells #[.slice va kids.length vc] 79 (0, 0))) := ((Keep.refl w NoB).alloc _).alloc _
  have h2 := heap_two w (.cells #[.pointer (some ⟨tb, 0, none⟩)] 39 (0, 0)) (.cells #[.slice va kids.length vc] 79 (0, 0))
  exact ⟨h.keep hk fun _ _ h => h, hs.keep hk fun _ _ h => h, h2.1, h2.2, hk.mono fun _ h => h.elim, h.lt⟩

set_option maxRecDepth 100000 in
set_option maxHeartbeats 2000000 in
theorem mend_calls {w : World} {tb : Nat} {S S' : TS} {F : Blocks} (h : TMem w tb S F) {k n : Nat} (hs : S.mend k n = some S') (hn : n + 1 < 9223372036854775808) :
    Calls Tryz.prog 167 #[.pointer (some ⟨tb, 0, none⟩), .int .i64 (k : Int), .int .i64 (n : Int)] w fun e w' => e = .returned (.tuple #[]) ∧ TPost w F w' tb S' := by
  have HGw : Kp _ := ⟨h⟩
  obtain ⟨v, s0, hv, hz0, hd⟩ := mend_inv hs
  obtain ⟨R, hm, hRF⟩ := h.ex
  obtain ⟨nb, rv, hnb, hna, hrv, hkl, hle, hmax, -, c1, -⟩ := hm.node hv
  have h0 := hm.cell0
  rw [hna] at h0
  have htb : tb < w.heap.size := hm.lt (.inl rfl)
  have hnbl : nb < w.heap.size := hm.nodes.lt hnb
  have HKS : Kp _ := ⟨hm.kids hrv hv⟩
  have HM : Kp _ := ⟨hm⟩
  have HZ0 : Kp _ := ⟨hz0⟩
  have HD : Kp _ := ⟨hd⟩
  clear hm hRF hs hv hz0 hd hnb hna hrv h
  go_enter Tryz.func167, Tryz.ntmps167
  go_wp2_with fail
  have HW : Kp (MendW w tb S F v.kids rv.ka rv.kc rv.kb ((w.alloc (.cells #[.pointer (some ⟨tb, 0, none⟩)] 39)).alloc (.cells #[.slice rv.ka v.kids.length rv.kc] 79))) := ⟨mendW_start HGw.out HKS.out _ _⟩
  generalize ((w.alloc (.cells #[.pointer (some ⟨tb, 0, none⟩)] 39)).alloc (.cells #[.slice rv.ka v.kids.length rv.kc] 79)) = W at *
  clear h0 c1 htb hnbl
  refine (mend1_calls HW.out.mem HW.out.sl HW.out.kb HW.out.xb HZ0.out).mono ?_
  rintro e W' ⟨rfl, q, rfl⟩
  replace HW : Kp _ := ⟨HW.out.drewN q⟩
  generalize W.drewN q = W1 at *
  clear W q
  rcases HD.out with ⟨h4, rfl⟩ | ⟨h4, s1, hz1, hd⟩
  · have h4' : ((4 : Int) ≤ (s0 : Int)) := by omega
    go_wp2_with fail
    go_end0
    exact ⟨rfl, HW.out.post⟩
  have h4' : ¬ ((4 : Int) ≤ (s0 : Int)) := by omega
  have HZ1 : Kp _ := ⟨hz1⟩
  have HD1 : Kp _ := ⟨hd⟩
  clear hz1 hd HD HZ0
  go_wp2_with fail
  refine (mend1_calls HW.out.mem HW.out.sl HW.out.kb HW.out.xb HZ1.out).mono ?_
  rintro e W' ⟨rfl, q, rfl⟩
  replace HW : Kp _ := ⟨HW.out.drewN q⟩
  generalize W1.drewN q = W2 at *
  clear W1 q
  rcases HD1.out with ⟨h5, hn0, a, b, ha, hb, hmv⟩ | ⟨h5, s2, hz2, hd⟩
  · have h5' : ((4 : Int) < (s1 : Int)) := by omega
    have HMV : Kp _ := ⟨hmv⟩
    obtain ⟨g, hg, hga⟩ := HW.out.sl.nonnil (by have := (List.getElem?_eq_some_iff.1 hb).1; omega)
    have ca := HW.out.sl.cell hg (vint_get ha)
    have cb := HW.out.sl.cell hg (vint_get hb)
    have k0 : W2.cell? ⟨w.heap.size + 1, 0, none⟩ = some (.slice rv.ka v.kids.length rv.kc) := by rw [cell_blk HW.out.kb]; rfl
    have x0 : W2.cell? ⟨w.heap.size, 0, none⟩ = some (.pointer (some ⟨tb, 0, none⟩)) := by rw [cell_blk HW.out.xb]; rfl
    rw [hga] at k0
    have hnl : n < v.kids.length := (List.getElem?_eq_some_iff.1 hb).1
    have hvc := HW.out.sl.le
    have hvm := HW.out.sl.max
    obtain ⟨p, hp, hpn⟩ : ∃ p : Nat, p = n - 1 ∧ (n : Int) - 1 = (p : Int) := ⟨n - 1, rfl, by omega⟩
    rw [← hp] at ca
    have hwm : IntKind.i64.wrap ((p : Nat) : Int) = (p : Int) := by rw [IntKind.wrap_i64]; omega
    have hml : (p : Int) < (v.kids.length : Int) := by omega
    have hml2 : (n : Int) < (v.kids.length : Int) := by omega
    have hml3 : p < v.kids.length := by omega
    clear hp ha hb hmv hg hga HD1 HZ1
    go_wp2_with fail
    go_still_tail 10, (by kernel_rfl)
    go_wp2_with fail
    refine (move_calls HW.out.drew.mem HMV.out).mono ?_
    rintro e W4 ⟨rfl, p4⟩
    have P4 : Kp (TPost w F W4 tb S') := ⟨TPost.pre HW.out.drew.keep p4 (Fresh.refl _ _) HW.out.old⟩
    clear p4
    go_wp2_with fail
    go_end0
    exact ⟨rfl, P4.out⟩
  have h5' : ¬ ((4 : Int) < (s1 : Int)) := by omega
  have HZ2 : Kp _ := ⟨hz2⟩
  have HD2 : Kp _ := ⟨hd⟩
  clear hz2 hd HD1 HZ1
  go_wp2_with fail
  refine (mend1_calls HW.out.mem HW.out.sl HW.out.kb HW.out.xb HZ2.out).mono ?_
  rintro e W' ⟨rfl, q, rfl⟩
  replace HW : Kp _ := ⟨HW.out.drewN q⟩
  generalize W2.drewN q = W3 at *
  clear W2 q
  rcases HD2.out with ⟨h6, a, b, ha, hb, hmv⟩ | ⟨h6, hd3⟩
  · have h6' : ((4 : Int) < (s2 : Int)) := by omega
    have HMV : Kp _ := ⟨hmv⟩
    obtain ⟨g, hg, hga⟩ := HW.out.sl.nonnil (by have := (List.getElem?_eq_some_iff.1 hb).1; omega)
    have ca := HW.out.sl.cell hg (vint_get ha)
    have cb := HW.out.sl.cell hg (vint_get hb)
    have k0 : W3.cell? ⟨w.heap.size + 1, 0, none⟩ = some (.slice rv.ka v.kids.length rv.kc) := by rw [cell_blk HW.out.kb]; rfl
    have x0 : W3.cell? ⟨w.heap.size, 0, none⟩ = some (.pointer (some ⟨tb, 0, none⟩)) := by rw [cell_blk HW.out.xb]; rfl
    rw [hga] at k0
    have hnl : n + 1 < v.kids.length := (List.getElem?_eq_some_iff.1 ha).1
    have hvc := HW.out.sl.le
    have hvm := HW.out.sl.max
    obtain ⟨p, hp, hpn⟩ : ∃ p : Nat, p = n + 1 ∧ (n : Int) + 1 = (p : Int) := ⟨n + 1, rfl, by omega⟩
    rw [← hp] at ca hnl
    have hwm : IntKind.i64.wrap ((p : Nat) : Int) = (p : Int) := by rw [IntKind.wrap_i64]; omega
    have hml : (p : Int) < (v.kids.length : Int) := by omega
    have hml2 : (n : Int) < (v.kids.length : Int) := by omega
    have hml3 : n < v.kids.length := by omega
    clear hp ha hb hmv hg hga HD2 HZ2
    go_wp2_with fail
    go_still_tail 10, (by kernel_rfl)
    go_wp2_with fail
    refine (move_calls HW.out.drew.mem HMV.out).mono ?_
    rintro e W4 ⟨rfl, p4⟩
    have P4 : Kp (TPost w F W4 tb S') := ⟨TPost.pre HW.out.drew.keep p4 (Fresh.refl _ _) HW.out.old⟩
    clear p4
    go_wp2_with fail
    go_end0
    exact ⟨rfl, P4.out⟩
  have h6' : ¬ ((4 : Int) < (s2 : Int)) := by omega
  have x0 : W3.cell? ⟨w.heap.size, 0, none⟩ = some (.pointer (some ⟨tb, 0, none⟩)) := by rw [cell_blk HW.out.xb]; rfl
  rcases hd3 with ⟨hn0, hmg⟩ | ⟨hn0, hmg⟩
  · have HMG : Kp _ := ⟨hmg⟩
    have hn0' : ((0 : Int) < (n : Int)) := by omega
    obtain ⟨p, hp, hpn⟩ : ∃ p : Nat, n - 1 = p ∧ (n : Int) - 1 = (p : Int) := ⟨n - 1, rfl, by omega⟩
    rw [hp] at HMG
    clear hmg hp HD2 HZ2
    go_wp2_with fail
    refine (merge_calls HW.out.mem HMG.out).mono ?_
    rintro e W4 ⟨rfl, p4⟩
    have P4 : Kp (TPost w F W4 tb S') := ⟨TPost.pre HW.out.keep p4 (Fresh.refl _ _) HW.out.old⟩
    clear p4
    go_wp2_with fail
    go_end0
    exact ⟨rfl, P4.out⟩
  · subst hn0
    have HMG : Kp _ := ⟨hmg⟩
    clear hmg HD2 HZ2
    go_wp2_with fail
    refine (merge_calls HW.out.mem HMG.out).mono ?_
    rintro e W4 ⟨rfl, p4⟩
    have P4 : Kp (TPost w F W4 tb S') := ⟨TPost.pre HW.out.keep p4 (Fresh.refl _ _) HW.out.old⟩
    clear p4
    go_wp2_with fail
    go_end0
    exact ⟨rfl, P4.out⟩

end Go.Proofs

/- The walk of the tree's remove. -/
namespace Go.Proofs
open Go.RowKit Go.Em

theorem remove_inv {f : Nat} {S S' : TS} {k i : Nat} {z : ByteArray} (h : TS.remove (f + 1) S k i = some (z, S')) :
    ∃ x S1, S.nodes[k]? = some x ∧ S1.sum k = some S' ∧
      ((x.kids = [] ∧ x.lines[i]? = some z ∧ S1 = S.setNode k ⟨x.lines.eraseIdx i, x.kids, x.count⟩) ∨
       (x.kids ≠ [] ∧ ∃ n j kid Sa, S.find k i = some (n, j) ∧ x.kids[n]? = some kid ∧ TS.remove f S kid j = some (z, Sa) ∧ j ≤ i ∧ Sa.mend k n = some S1)) := by
  unfold TS.remove at h
  split at h
  · cases h
  rename_i x hx
  dsimp only at h
  split at h
  · cases h
  rename_i z' S1 hr
  split at h
  · cases h
  rename_i S2 h2
  obtain ⟨rfl, rfl⟩ := Prod.mk.inj (Option.some.inj h)
  refine ⟨x, S1, hx, h2, ?_⟩
  split at hr
  · rename_i hk
    split at hr
    · cases hr
    rename_i z'' hz
    obtain ⟨rfl, rfl⟩ := Prod.mk.inj (Option.some.inj hr)
    exact .inl ⟨hk, hz, rfl⟩
  · rename_i hk
    right
    refine ⟨hk, ?_⟩
    split at hr
    · cases hr
    rename_i n j hf
    split at hr
    · cases hr
    rename_i kid hkid
    split at hr
    · cases hr
    rename_i z'' Sa hin
    split at hr
    · cases hr
    rename_i Sb hm
    obtain ⟨rfl, rfl⟩ := Prod.mk.inj (Option.some.inj hr)
    have hfind : S.find k i = some (n, j) := by unfold TS.find; rw [hx]; exact hf
    exact ⟨n, j, kid, Sa, hfind, hkid, hin, findGo_le hf, hm⟩

set_option maxRecDepth 100000 in
set_option maxHeartbeats 2000000 in
theorem remove_calls : ∀ (f : Nat) {w : World} {tb : Nat} {S S' : TS} {F : Blocks} (_ : TMem w tb S F) {k i : Nat} {z : ByteArray} (_ : TS.remove f S k i = some (z, S')) (_ : i < 1048576),
    Calls Tryz.prog 163 #[.pointer (some ⟨tb, 0, none⟩), .int .i64 (k : Int), .int .i64 (i : Int)] w fun e w' => e = .returned (.string z) ∧ TPost w F w' tb S'
  | 0, w, tb, S, S', F, h, k, i, z, hs, hi => by simp [TS.remove] at hs
  | f + 1, w, tb, S, S', F, h, k, i, z, hs, hi => by
    have IH : Kp _ := ⟨@remove_calls f⟩
    have HG : Kp _ := ⟨h⟩
    obtain ⟨x, S1, hx, hs1, hc⟩ := remove_inv hs
    obtain ⟨⟨R, hm, hRF⟩, hFlt⟩ := h
    obtain ⟨nb, r, hnb, hna, hr, hk, hle, hmax, c0, c1, c2⟩ := hm.node hx
    have h0 := hm.cell0
    rw [hna] at h0
    have htb : tb < w.heap.size := hm.lt (.inl rfl)
    have hnbl : nb < w.heap.size := hm.nodes.lt hnb
    have htn : nb ≠ tb := fun e => hm.nodes.ne_blk hm.hd (by decide) (e ▸ hnb)
    have HM : Kp _ := ⟨hm⟩
    have HRF : Kp _ := ⟨hRF⟩
    have HX : Kp _ := ⟨hx⟩
    have HR : Kp _ := ⟨hr⟩
    have HNB : Kp _ := ⟨hnb⟩
    have HS1 : Kp _ := ⟨hs1⟩
    clear hm hRF hFlt hr hnb hna hs hs1 hx
    rcases hc with ⟨hk0, hz, rfl⟩ | ⟨hk0, n, j, kid, Sa, hfd, hkid, hin, hji, hmd⟩
    · have hk1 : x.kids.length = 0 := by rw [hk0]; rfl
      have hsl := HM.out.lines HR.out HX.out
      have hlm := hsl.max
      have hlc := hsl.le
      have hil : i < x.lines.length := (List.getElem?_eq_some_iff.1 hz).1
      obtain ⟨lb, hlb, hla⟩ := hsl.nonnil (by omega)
      have hcz := hsl.cell hlb (vstr_get hz)
      rw [hla] at c0
      have HSL : Kp _ := ⟨hsl⟩
      have HLA : Kp _ := ⟨hla⟩
      clear hk0 hsl hlb hla hz
      go_enter Tryz.func163, Tryz.ntmps163
      go_wp2_with ((with_reducible refine (leaf_calls _ _ _ _ _ _ c1).mono ?_)
                   rintro e w' ⟨rfl, rfl⟩)
      refine wp_region_plan (fun W => W.cell? ⟨tb, 0, none⟩ = some (.slice (some ⟨nb, 0, none⟩) S.nodes.length R.nc) ∧ W.cell? ⟨nb, k * 3, none⟩ = some (.slice (some ⟨lb, 0, none⟩) x.lines.length r.lc))
        [(true, 0), (true, 1), (true, 2), (true, 3), (true, 4), (true, 5), (true, 6), (true, 7), (true, 8), (true, 9), (true, 10), (true, 11), (true, 12), (true, 13), (true, 14), (true, 15), (false, 16)] 17 (by kernel_rfl) (by kernel_rfl) (fun _ _ d _ _ h => by cases d <;> exact h) (by go_simp) ?_
      iterate 16
        (refine' plan_read _ rfl rfl ?_ ?_
         rotate_left
         · (intro W hW; (try dsimp only at hW); go_simp; try rfl)
         simp only [Act.put, List.setIfInBounds_toArray, List.set_cons_zero, List.set_cons_succ])
      refine plan_do _ rfl ?_
      have HSLd : Kp (Sl w.drew 9 1 (some ⟨lb, 0, none⟩) x.lines.length r.lc (vstr x.lines) r.lb) := ⟨by rw [← HLA.out]; exact HSL.out.keep (Keep.refl w NoB).drew fun _ _ h => h⟩
      go_wp2_with fail
      refine (del_str (i := i) (p := (i : Int)) (q := (i : Int) + 1) HSLd.out hil rfl rfl).mono ?_
      rintro e w' ⟨rfl, h2, h3⟩
      have hbt : ¬ Opt r.lb tb := fun h => HSL.out.ne_blk HM.out.hd (by decide) h
      have hbn : ¬ Opt r.lb nb := fun h => HSL.out.types HM.out.nodes (by decide) h HNB.out
      have e0 := h3.cell (show w.drew.cell? _ = _ from h0) hbt
      have e1 := h3.cell (show w.drew.cell? _ = _ from c0) hbn
      have e2 : w'.frozen? ⟨nb, k * 3, none⟩ = false := by
        rw [h3.frozen (show _ < w.drew.heap.size from hnbl) hbn]
        exact HM.out.nodes.frozen HNB.out _
      have hlen : (x.lines.eraseIdx i).length = x.lines.length - 1 := by rw [List.length_eraseIdx_of_lt hil]
      have HP : Kp (TPost w F (w'.setCell ⟨nb, k * 3, none⟩ (.slice (some ⟨lb, 0, none⟩) (x.lines.length - 1) r.lc)) tb (S.setNode k ⟨x.lines.eraseIdx i, x.kids, x.count⟩)) := ⟨by
        rw [← hlen] at h2 ⊢
        exact TMem.setLines HG.out HM.out HRF.out HX.out HR.out HNB.out _ h2 (((Keep.refl w (Opt r.lb)).drew).trans h3 (Fresh.refl _ _)) (Fresh.refl _ _)⟩
      have hv1 : x.lines.length - 1 ≤ r.lc := by omega
      clear h2 h3 hbt hbn hlen HSLd HSL c0 c1 c2 h0 hlc hcz
      go_wp2_with fail
      refine ⟨⟨e0, e1⟩, plan_end ?_⟩
      try simp only [List.drop_succ_cons, List.drop_zero]
      go_wp2_with fail
      refine (sum_calls HP.out.mem HS1.out).mono ?_
      rintro e W7 ⟨rfl, p7⟩
      have P7 : Kp _ := ⟨HP.out.trans p7⟩
      clear p7 HP
      go_wp2_with fail
      go_ret
      exact ⟨rfl, P7.out⟩
    · have hk1 : x.kids.length ≠ 0 := by rw [Ne, List.length_eq_zero_iff]; exact hk0
      have hsk := HM.out.kids HR.out HX.out
      have hkm := hsk.max
      have hkc := hsk.le
      obtain ⟨kb, hkb, hka⟩ := hsk.nonnil (Nat.pos_of_ne_zero hk1)
      rw [hka] at c1
      have hnk : n < x.kids.length := (List.getElem?_eq_some_iff.1 hkid).1
      have hkv := hsk.cell hkb (vint_get hkid)
      have hj : j < 1048576 := by omega
      have HFD : Kp _ := ⟨hfd⟩
      have HIN : Kp _ := ⟨hin⟩
      have HMD : Kp _ := ⟨hmd⟩
      clear hk0 hsk hka hkb hkid hfd hin hmd hji
      go_enter Tryz.func163, Tryz.ntmps163
      go_wp2_with ((with_reducible refine (leaf_calls _ _ _ _ _ _ c1).mono ?_)
                   rintro e w' ⟨rfl, rfl⟩)
      with_reducible refine (find_calls HG.out HFD.out hi).mono ?_
      rintro e w' ⟨rfl, rfl⟩
      go_wp2_with fail
      with_reducible refine (IH.out HG.out HIN.out hj).mono ?_
      rintro e W1 ⟨rfl, p1⟩
      have P1 : Kp _ := ⟨p1⟩
      have hn2 : n + 1 < 9223372036854775808 := by omega
      clear p1 c0 c1 c2 h0 hkv htb hnbl htn hk hle hmax hkm hkc hnk
      go_wp2_with fail
      refine (mend_calls P1.out.mem HMD.out hn2).mono ?_
      rintro e W2 ⟨rfl, p2⟩
      have P2 : Kp _ := ⟨P1.out.trans p2⟩
      clear p2 P1
      go_wp2_with fail
      refine (sum_calls P2.out.mem HS1.out).mono ?_
      rintro e W7 ⟨rfl, p7⟩
      have P7 : Kp _ := ⟨P2.out.trans p7⟩
      clear p7 P2
      go_wp2_with fail
      go_ret
      exact ⟨rfl, P7.out⟩
termination_by f => f

end Go.Proofs

/- The walks that read a tree of lines; the walk of Set. -/
namespace Go.Proofs
open Go.RowKit Go.Em

theorem _root_.Go.Em.TPost.more' {w w1 w2 : World} {F : Blocks} {tb : Nat} {S1 S2 : TS} {R2 : TR} (P : TPost w F w1 tb S1) (m : TM w2 tb S2 R2) (k : Keep w1 (Ext F w w1) w2) (cov : ∀ b, R2.F tb b → F b ∨ w.heap.size ≤ b) : TPost w F w2 tb S2 :=
  P.trans (TPost.of P.mem m k fun b hb => by
    rcases cov b hb with h | h
    · exact .inl (.inl h)
    · by_cases hlt : b < w1.heap.size
      · exact .inl (.inr ⟨h, hlt⟩)
      · exact .inr (by omega))

theorem _root_.Go.Em.TM.setLine {w : World} {tb : Nat} {S : TS} {R : TR} (hm : TM w tb S R) {k lb : Nat} {x : ND} {r : RN} (hx : S.nodes[k]? = some x) (hr : R.rs[k]? = some r) (hlb : r.lb = some lb) (j : Nat) (line : ByteArray) :
    TM (w.setCell ⟨lb, j, none⟩ (.string line)) tb (S.setNode k ⟨x.lines.set j line, x.kids, x.count⟩) R ∧ Keep w (Opt r.lb) (w.setCell ⟨lb, j, none⟩ (.string line)) := by
  have hsl := hm.lines hr hx
  have hsk := hm.kids hr hx
  have hkp : Keep w (Opt r.lb) (w.setCell ⟨lb, j, none⟩ (.string line)) := (Keep.refl w _).setCell (a := ⟨lb, j, none⟩) (.inl hlb) _
  have hlen : (x.lines.set j line).length = x.lines.length := by simp
  have hv : (vstr x.lines).set j (.string line) = vstr (x.lines.set j line) := by simp [vstr, List.map_set]
  have hfl : flat (R.rs.set k r) (S.nodes.set k ⟨x.lines.set j line, x.kids, x.count⟩) = flat R.rs S.nodes := by
    have := flat_put0 hr hx r.la r.lc r.lb (x.lines.set j line)
    rw [hlen, set_same (flat_get hr hx).1] at this
    exact this
  have m := hm.replace (w' := w.setCell ⟨lb, j, none⟩ (.string line)) hr hx r ⟨x.lines.set j line, x.kids, x.count⟩ (by rw [hfl]; exact hm.nodes.keep hkp fun g hg e => hsl.types hm.nodes (by decide) e hg)
    (by have := hsl.put hlb j (.string line); rw [hv] at this; rw [hlen]; exact this) (hsk.keep hkp fun g hg e => hsk.types hsl (by decide) hg e) (fun g hg => .inl hg) (fun g hg => .inl hg) (hkp.mono fun b hb => .inr (.inl hb))
  rw [TR.set_same hr] at m
  exact ⟨m, hkp⟩

set_option maxRecDepth 100000 in
set_option maxHeartbeats 1000000 in
theorem get_text {w : World} {tb : Nat} {l : List ByteArray} {F : Blocks} (h : TText w tb l F) {i : Nat} {x : ByteArray} (hi : l[i]? = some x) :
    Calls Tryz.prog 32 #[.pointer (some ⟨tb, 0, none⟩), .int .i64 (i : Int)] w fun e w' => e = .returned (.tuple #[.string x, .bool true]) ∧ ∃ q, w' = w.drewN q := by
  obtain ⟨S, g, p⟩ := h
  have hlt : i < l.length := (List.getElem?_eq_some_iff.1 hi).1
  have hmost := g.bounds.2
  simp only [most] at hmost
  obtain ⟨f, k, j, y, hat, hy, hyk, hj, hjx, -⟩ := g.at_ i hlt
  rw [hi] at hjx
  obtain ⟨R, hm, -⟩ := p.ex
  obtain ⟨nb, r, hnb, hna, hr, hk, hle, hmax, c0, -, -⟩ := hm.node hy
  have h0 := hm.cell0
  rw [hna] at h0
  have hsl := hm.lines hr hy
  obtain ⟨lb, hlb, hla⟩ := hsl.nonnil (by omega)
  have hcz := hsl.cell hlb (vstr_get hjx)
  have hlc := hsl.le
  have hlm := hsl.max
  rw [hla] at c0
  have HP : Kp _ := ⟨p⟩
  have HL : Kp _ := ⟨g.len⟩
  have HAT : Kp _ := ⟨hat⟩
  have hib : i < 1048576 := by omega
  have hin : ¬ ((l.length : Int) ≤ (i : Int)) := by omega
  clear g p hat hy hyk hjx hi hm hnb hna hr hsl hlb hla hlt
  go_enter Tryz.func32, Tryz.ntmps32
  go_wp2_with fail
  refine (len_calls HP.out HL.out).mono ?_
  rintro e w' ⟨rfl, q, rfl⟩
  have HP2 : Kp _ := ⟨HP.out.drewN q⟩
  go_wp2_with fail
  refine (at_calls HP2.out HAT.out hib).mono ?_
  rintro e w' ⟨rfl, rfl⟩
  go_wp2_with fail
  go_ret2
  exact ⟨rfl, q, rfl⟩

set_option maxRecDepth 100000 in
theorem get_text_out {w : World} {tb : Nat} {l : List ByteArray} {F : Blocks} (h : TText w tb l F) {i : Int} (hi : i < 0 ∨ (l.length : Int) ≤ i) :
    Calls Tryz.prog 32 #[.pointer (some ⟨tb, 0, none⟩), .int .i64 i] w fun e w' => e = .returned (.tuple #[.string ⟨#[]⟩, .bool false]) ∧ ∃ q, w' = w.drewN q := by
  obtain ⟨S, g, p⟩ := h
  have HP : Kp _ := ⟨p⟩
  have HL : Kp _ := ⟨g.len⟩
  clear g p
  go_enter Tryz.func32, Tryz.ntmps32
  go_wp2_with ((refine (len_calls HP.out HL.out).mono ?_)
               rintro e w' ⟨rfl, q, rfl⟩)
  · go_ret2
    exact ⟨rfl, q, rfl⟩
  · go_ret2
    exact ⟨rfl, 0, rfl⟩

set_option maxRecDepth 100000 in
set_option maxHeartbeats 1000000 in
theorem set_text {w : World} {tb : Nat} {l : List ByteArray} {F : Blocks} (h : TText w tb l F) {i : Nat} (hlt : i < l.length) (line : ByteArray) :
    Calls Tryz.prog 158 #[.pointer (some ⟨tb, 0, none⟩), .int .i64 (i : Int), .string line] w fun e w' => e = .returned (.bool true) ∧ TTPost w F w' tb (l.set i line) := by
  obtain ⟨S, g, p⟩ := h
  have hmost := g.bounds.2
  simp only [most] at hmost
  obtain ⟨f, k, j, y, hat, hy, hyk, hj, hjx, hgood⟩ := g.at_ i hlt
  have HP : Kp _ := ⟨p⟩
  have HL : Kp _ := ⟨g.len⟩
  have HAT : Kp _ := ⟨hat⟩
  have HY : Kp _ := ⟨hy⟩
  have HGD : Kp _ := ⟨hgood line⟩
  have hib : i < 1048576 := by omega
  have hin : ¬ ((l.length : Int) ≤ (i : Int)) := by omega
  obtain ⟨z, hz⟩ : ∃ z, y.lines[j]? = some z := ⟨_, List.getElem?_eq_getElem hj⟩
  clear g p hat hy hyk hjx hlt hgood
  go_enter Tryz.func158, Tryz.ntmps158
  go_wp2_with fail
  refine (len_calls HP.out HL.out).mono ?_
  rintro e w' ⟨rfl, q, rfl⟩
  have HP2 : Kp _ := ⟨HP.out.drewN q⟩
  have HK : Kp (Keep w F (w.drewN q)) := ⟨(Keep.refl w F).drewN q⟩
  have HF : Kp (∀ b, F b → b < w.heap.size) := ⟨HP.out.lt⟩
  generalize w.drewN q = W at *
  clear HP
  go_wp2_with fail
  refine (at_calls HP2.out HAT.out hib).mono ?_
  rintro e w' ⟨rfl, rfl⟩
  obtain ⟨R, hm, hRF⟩ := HP2.out.ex
  obtain ⟨nb, r, hnb, hna, hr, hk, hle, hmax, c0, -, -⟩ := hm.node HY.out
  have h0 := hm.cell0
  have h3 := hm.cell3
  have z3 := hm.frozen 3
  rw [hna] at h0
  have hsl := hm.lines hr HY.out
  obtain ⟨lb, hlb, hla⟩ := hsl.nonnil (by omega)
  have hcz := hsl.cell hlb (vstr_get hz)
  have hlc := hsl.le
  have hlm := hsl.max
  have hfz := hsl.frozen hlb j
  rw [hla] at c0
  have htb : tb < W.heap.size := hm.lt (.inl rfl)
  have htn : nb ≠ tb := fun e => hm.nodes.ne_blk hm.hd (by decide) (e ▸ hnb)
  have hlt' : lb ≠ tb := fun e => hsl.ne_blk hm.hd (by decide) (e ▸ hlb)
  have hln : lb ≠ nb := fun e => hsl.types hm.nodes (by decide) (e ▸ hlb) hnb
  have HM : Kp _ := ⟨hm⟩
  have HR : Kp _ := ⟨hr⟩
  have HRF : Kp _ := ⟨hRF⟩
  have HLB : Kp _ := ⟨hlb⟩
  have hjl : (j : Int) < (y.lines.length : Int) := by omega
  have hkl : (k : Int) < (S.nodes.length : Int) := by omega
  clear hm hRF hnb hna hr hsl hlb hla hz
  go_wp2_with fail
  go_still_tail 20, (by kernel_rfl)
  go_wp2_with fail
  go_ret
  have P := (TPost.refl HP2.out).setBytes (wrap64 (S.bytes + wrap64 ((line.size : Int) - z.size)))
  obtain ⟨m, kp⟩ := (HM.out.setBytes (wrap64 (S.bytes + wrap64 ((line.size : Int) - z.size)))).1.setLine HY.out HR.out HLB.out j line
  have Q := P.more' m.drew ((kp.mono fun b hb => .inl (HRF.out b (.inr (.inr (.inr ⟨k, r, HR.out, .inl hb⟩))))).drew) fun b hb => .inl (HRF.out b hb)
  exact ⟨rfl, _, HGD.out.setBytes _, TPost.pre HK.out Q (Fresh.refl _ _) HF.out⟩

set_option maxRecDepth 100000 in
theorem set_text_out {w : World} {tb : Nat} {l : List ByteArray} {F : Blocks} (h : TText w tb l F) {i : Int} (hi : i < 0 ∨ (l.length : Int) ≤ i) (line : ByteArray) :
    Calls Tryz.prog 158 #[.pointer (some ⟨tb, 0, none⟩), .int .i64 i, .string line] w fun e w' => e = .returned (.bool false) ∧ ∃ q, w' = w.drewN q := by
  obtain ⟨S, g, p⟩ := h
  have HP : Kp _ := ⟨p⟩
  have HL : Kp _ := ⟨g.len⟩
  clear g p
  go_enter Tryz.func158, Tryz.ntmps158
  go_wp2_with ((refine (len_calls HP.out HL.out).mono ?_)
               rintro e w' ⟨rfl, q, rfl⟩)
  · go_ret
    exact ⟨rfl, q, rfl⟩
  · go_ret
    exact ⟨rfl, 0, rfl⟩

theorem walkAll_le {g : Nat → Option (List ByteArray)} : ∀ {ks : List Nat} {acc r : List ByteArray}, TS.walk.walkAll g ks acc = some r → acc.length ≤ r.length
  | [], acc, r, h => by simp [TS.walk.walkAll] at h; rw [h]; exact Nat.le_refl _
  | kid :: ks, acc, r, h => by
    unfold TS.walk.walkAll at h
    split at h
    · cases h
    · have := walkAll_le h
      simp at this; omega

theorem walkAll_cons {g : Nat → Option (List ByteArray)} {kid : Nat} {ks : List Nat} {acc r : List ByteArray} (h : TS.walk.walkAll g (kid :: ks) acc = some r) : ∃ l, g kid = some l ∧ TS.walk.walkAll g ks (acc ++ l) = some r := by
  unfold TS.walk.walkAll at h
  split at h
  · cases h
  · rename_i l hl; exact ⟨l, hl, h⟩

set_option maxRecDepth 100000 in
set_option maxHeartbeats 2000000 in
theorem walk_calls : ∀ (f : Nat) {w : World} {tb : Nat} {S : TS} {F : Blocks} (_ : TMem w tb S F) {k : Nat} {res xs : List ByteArray} {a : Option Addr} {n c : Nat} {b : Option Nat} (_ : S.walk f k = some res)
    (_ : Sl w 9 1 a n c (vstr xs) b) (_ : ∀ g, b = some g → ¬ F g) (_ : n + res.length ≤ 1048576),
    Calls Tryz.prog 31 #[.pointer (some ⟨tb, 0, none⟩), .int .i64 (k : Int), .slice a n c] w fun e w' => ∃ a' c' b', e = .returned (.slice a' (n + res.length) c') ∧ Sl w' 9 1 a' (n + res.length) c' (vstr (xs ++ res)) b' ∧
      Keep w (Opt b) w' ∧ Fresh w (Opt b) (Opt b')
  | 0, w, tb, S, F, h, k, res, xs, a, n, c, b, hs, _, _, _ => by simp [TS.walk] at hs
  | f + 1, w, tb, S, F, h, k, res, xs, a, n, c, b, hs, hsl, hbF, hlen => by
    have IH : Kp _ := ⟨@walk_calls f⟩
    unfold TS.walk at hs
    split at hs
    · cases hs
    rename_i x hx
    obtain ⟨R, hm, hRF⟩ := h.ex
    obtain ⟨nb, r, hnb, hna, hr, hk, hle, hmax, c0, c1, -⟩ := hm.node hx
    have h0 := hm.cell0
    rw [hna] at h0
    have hxl := hm.lines hr hx
    have hxk := hm.kids hr hx
    have hxlc := hxl.le
    have hxlm := hxl.max
    have hxkc := hxk.le
    have hxkm := hxk.max
    have hll : x.lines.length ≤ res.length := walkAll_le hs
    have hcl := hsl.le
    have hcm := hsl.max
    have HG : Kp _ := ⟨h⟩
    have HM : Kp _ := ⟨hm⟩
    have HSL : Kp _ := ⟨hsl⟩
    have HRD : Kp _ := ⟨Rd.of_sl hxl (by
      intro u hu
      simp only [vstr, List.mem_map] at hu
      obtain ⟨x, _, rfl⟩ := hu
      rfl)⟩
    have HXK : Kp _ := ⟨hxk⟩
    have HBF : Kp _ := ⟨hbF⟩
    have HS : Kp _ := ⟨hs⟩
    have htb : ¬ Opt b tb := fun e => hbF tb e h.hasTb
    have hnbF : ¬ Opt b nb := fun e => hbF nb e (hRF nb (.inr (.inl hnb)))
    have hkF : ∀ g, r.kb = some g → ¬ Opt b g := fun g hg e => hbF g e (hRF g (.inr (.inr (.inr ⟨k, r, hr, .inr hg⟩))))
    have HTB : Kp _ := ⟨htb⟩
    have HNB : Kp _ := ⟨hnbF⟩
    have HKF : Kp _ := ⟨hkF⟩
    clear h hm hRF hs hsl hbF hxl hxk hx hnb hna hr htb hnbF hkF
    go_enter Tryz.func31, Tryz.ntmps31
    go_wp2_with (at_builtin
                 refine wpList_append_rd rfl _ _ 22 rfl 9 _ 1 16 Tryz.underlying22 info_str rfl (by decide) HSL.out rfl HRD.out rfl (by omega) (by omega) ?_
                 intro a1 c1' b1 w1 h2 h3 h4
                 have e0 := h3.cell h0 HTB.out
                 have e1 := h3.cell c1 HNB.out
                 have hle2 := h2.le
                 have hmax2 := h2.max
                 have H2 : Kp _ := ⟨h2⟩
                 have H3 : Kp _ := ⟨h3⟩
                 have H4 : Kp _ := ⟨h4⟩
                 clear h2 h3 h4)
    have hv : vstr xs ++ vstr x.lines = vstr (xs ++ x.lines) := by simp [vstr]
    have h2 := H2.out
    rw [hv] at h2
    have H2' : Kp _ := ⟨h2⟩
    clear h2 hv H2
    go_loopw [28, 2] (fun q o wr => ∃ (i : Nat) (acc : List ByteArray) (a2 : Option Addr) (c2 : Nat) (b2 : Option Nat), i ≤ x.kids.length ∧ q = .int .i64 (i : Int) ∧ o = .slice a2 (n + acc.length) c2 ∧ Kp (TS.walk.walkAll (S.walk f) (x.kids.drop i) acc = some res) ∧
      Kp (Sl wr 9 1 a2 (n + acc.length) c2 (vstr (xs ++ acc)) b2) ∧ Kp (Keep w (Opt b) wr) ∧ Kp (Fresh w (Opt b) (Opt b2))) (fun q _ _ => x.kids.length - (intOf q).toNat)
    case atStart => exact ⟨0, x.lines, _, _, _, Nat.zero_le _, rfl, rfl, ⟨by simpa using HS.out⟩, H2', H3, H4⟩
    case round =>
      obtain ⟨i, acc, a2, c2, b2, hi, rfl, rfl, HW, HSa, HK, HFr⟩ := hrel
      by_cases hlt : i < x.kids.length
      · obtain ⟨kid, hkid, hd⟩ := drop_next hlt
        have hW := HW.out
        rw [hd] at hW
        obtain ⟨l, hl, hW⟩ := walkAll_cons hW
        have hal := walkAll_le hW
        rw [List.length_append] at hal
        obtain ⟨kb, hkb, hka⟩ := HXK.out.nonnil (by omega)
        have hcell := HK.out.cell (HXK.out.cell hkb (vint_get hkid)) (HKF.out kb hkb)
        have hkae : r.ka = some ⟨kb, 0, none⟩ := hka
        have HWn : Kp _ := ⟨hW⟩
        have HL : Kp _ := ⟨hl⟩
        have hcm2 := HSa.out.max
        have hcl2 := HSa.out.le
        have hGr : TMem wr tb S F := HG.out.keep HK.out fun g hg e => HBF.out g e hg
        have HGr : Kp _ := ⟨hGr⟩
        have hbr : ∀ g, b2 = some g → ¬ F g := fun g hg hF => by
          rcases HFr.out g hg with h | h
          · exact HBF.out g h hF
          · have := HG.out.lt g hF; omega
        have HBR : Kp _ := ⟨hbr⟩
        have HKA : Kp _ := ⟨hkae⟩
        have hll2 : n + acc.length + l.length ≤ 1048576 := by omega
        rw [hkae]
        clear hW hl hd hkid hkb hka hGr hbr hkae HW
        go_wp2_with fail
        refine (IH.out HGr.out HL.out HSa.out HBR.out hll2).mono ?_
        rintro e w' ⟨a3, c3, b3, rfl, s3, k3, f3⟩
        have hlen3 : n + acc.length + l.length = n + (acc ++ l).length := by rw [List.length_append]; omega
        rw [hlen3, List.append_assoc] at s3
        rw [hlen3]
        have S3 : Kp _ := ⟨s3⟩
        have K3 : Kp (Keep w (Opt b) w') := ⟨HK.out.trans k3 HFr.out⟩
        have F3 : Kp (Fresh w (Opt b) (Opt b3)) := ⟨HFr.out.trans HK.out.size f3⟩
        clear s3 k3 f3 hlen3 hcell
        generalize hal2 : acc ++ l = acc2 at *
        go_wp2_with fail
        go_roundw
        case rel => exact ⟨i + 1, acc2, a3, c3, b3, by omega, by go_num, rfl, HWn, S3, K3, F3⟩
        case measure => simp [intOf]; omega
      · have hie : i = x.kids.length := by omega
        have hW := HW.out
        rw [List.drop_eq_nil_of_le (by omega)] at hW
        simp only [TS.walk.walkAll, Option.some.injEq] at hW
        subst hW
        clear HW
        go_wp2
        go_ret
        exact ⟨_, _, _, rfl, HSa.out, HK.out, HFr.out⟩
termination_by f => f

theorem lines_text {w : World} {tb : Nat} {l : List ByteArray} {F : Blocks} (h : TText w tb l F) :
    Calls Tryz.prog 12 #[.pointer (some ⟨tb, 0, none⟩)] w fun e w' => ∃ a c b, e = .returned (.slice a l.length c) ∧ Sl w' 9 1 a l.length c (vstr l) b ∧ Keep w NoB w' ∧ Fresh w NoB (Opt b) := by
  obtain ⟨S, g, p⟩ := h
  obtain ⟨f, hf⟩ := g.walk
  have hmost := g.bounds.2
  simp only [most] at hmost
  obtain ⟨b0, h2, -⟩ := p.head
  have HP : Kp _ := ⟨p⟩
  have HF : Kp _ := ⟨hf⟩
  clear g p hf
  go_enter Tryz.func12, Tryz.ntmps12
  go_wp2_with fail
  refine (walk_calls f (xs := []) (b := none) HP.out HF.out (Sl.nil w 9 1 : Sl w 9 1 none 0 0 (vstr []) none) (fun g hg => by cases hg) (by omega)).mono ?_
  rintro e w' ⟨a, c, b, rfl, h3, h4, h5⟩
  have H3 : Kp _ := ⟨h3⟩
  have H4 : Kp _ := ⟨h4⟩
  have H5 : Kp _ := ⟨h5⟩
  clear h3 h4 h5
  go_wp2_with fail
  go_ret
  have h3 := H3.out
  simp only [Nat.zero_add, List.nil_append] at h3 ⊢
  refine ⟨_, _, _, rfl, h3, H4.out.mono (fun b hb => by cases hb), fun b hb => ?_⟩
  rcases H5.out b hb with h | h
  · cases h
  · exact .inr h

end Go.Proofs

/- The walk of the tree's Delete. -/
namespace Go.Proofs
open Go.RowKit Go.Em

def Same (S S' : TS) : Prop := S'.bytes = S.bytes ∧ S'.root = S.root
theorem Same.trans {S S1 S2 : TS} (h : Same S S1) (k : Same S1 S2) : Same S S2 := ⟨k.1.trans h.1, k.2.trans h.2⟩
theorem sum_same {S S' : TS} {k : Nat} (h : S.sum k = some S') : Same S S' := by
  obtain ⟨x, cf, _, _, _, _, rfl⟩ := sum_inv h
  exact ⟨rfl, rfl⟩
theorem drop_same {S S' : TS} {k : Nat} (h : S.drop k = some S') : Same S S' := by
  rw [drop_nodes h]; exact ⟨rfl, rfl⟩
theorem move_same {S S' : TS} {a b : Nat} {back : Bool} (h : S.move a b back = some S') : Same S S' := by
  obtain ⟨x, y, x', y', S2, _, _, _, _, _, h1, h2, _⟩ := move_inv h
  have q := sum_same h1
  exact Same.trans ⟨q.1, q.2⟩ (sum_same h2)
theorem merge_same {S S' : TS} {k n : Nat} (h : S.merge k n = some S') : Same S S' := by
  obtain ⟨v, a, b, x, y, S2, _, _, _, _, _, _, _, _, _, _, h1, h2⟩ := merge_inv h
  have q := drop_same h1
  have q2 := sum_same h2
  exact Same.trans ⟨q.1, q.2⟩ ⟨q2.1, q2.2⟩
theorem mend_same {S S' : TS} {k n : Nat} (h : S.mend k n = some S') : Same S S' := by
  obtain ⟨v, s0, _, _, ⟨_, rfl⟩ | ⟨_, s1, _, ⟨_, _, a, b, _, _, h⟩ | ⟨_, s2, _, ⟨_, a, b, _, _, h⟩ | ⟨_, ⟨_, h⟩ | ⟨_, h⟩⟩⟩⟩⟩ := mend_inv h
  · exact ⟨rfl, rfl⟩
  · exact move_same h
  · exact move_same h
  · exact merge_same h
  · exact merge_same h
theorem remove_same : ∀ {f : Nat} {S S' : TS} {k i : Nat} {z : ByteArray}, TS.remove f S k i = some (z, S') → Same S S'
  | 0, S, S', k, i, z, h => by simp [TS.remove] at h
  | f + 1, S, S', k, i, z, h => by
    obtain ⟨x, S1, _, h1, ⟨_, _, rfl⟩ | ⟨_, n, j, kid, Sa, _, _, h2, _, h3⟩⟩ := remove_inv h
    · have q := sum_same h1
      exact ⟨q.1, q.2⟩
    · exact ((remove_same h2).trans (mend_same h3)).trans (sum_same h1)

theorem deleteTop_inv {f : Nat} {S S' : TS} {i : Nat} (h : TS.deleteTop f S i = some S') :
    ∃ z Sa x, TS.remove f S S.root i = some (z, Sa) ∧ Sa.nodes[Sa.root]? = some x ∧ ((x.kids.length ≠ 1 ∧ S' = Sa) ∨ ∃ kid S2, x.kids = [kid] ∧ Sa.drop Sa.root = some S2 ∧ S' = { S2 with root := kid }) := by
  unfold TS.deleteTop at h
  split at h
  · cases h
  rename_i z Sa hr
  split at h
  · cases h
  rename_i x hx
  refine ⟨z, Sa, x, hr, hx, ?_⟩
  split at h
  · rename_i kid hk
    split at h
    · cases h
    rename_i S2 hd
    exact .inr ⟨kid, S2, hk, hd, (Option.some.inj h).symm⟩
  · rename_i hk
    refine .inl ⟨fun e => ?_, (Option.some.inj h).symm⟩
    obtain ⟨kid, e⟩ := List.length_eq_one_iff.1 e
    exact hk kid e

theorem drop_bytes {S S2 : TS} {k : Nat} (h : S.drop k = some S2) (b : Int) : ({ S with bytes := b } : TS).drop k = some { S2 with bytes := b } := by
  unfold TS.drop at h ⊢
  split at h
  · rename_i h1
    split at h
    · rename_i h2
      rw [if_pos (show k < ({ S with bytes := b } : TS).nodes.length from h1), if_pos (show ({ S with bytes := b } : TS).free.length < cap from h2), ← Option.some.inj h]
    · cases h
  · cases h

set_option maxRecDepth 100000 in
theorem Delete_out {w : World} {tb : Nat} {S : TS} {F : Blocks} (h : TMem w tb S F) {n : Nat} {i : Int} (hl : S.len = some n) (hi : i < 0 ∨ (n : Int) ≤ i) :
    Calls Tryz.prog 159 #[.pointer (some ⟨tb, 0, none⟩), .int .i64 i] w fun e w' => e = .returned (.bool false) ∧ ∃ q, w' = w.drewN q := by
  have HG : Kp _ := ⟨h⟩
  have HL : Kp _ := ⟨hl⟩
  clear h hl
  go_enter Tryz.func159, Tryz.ntmps159
  go_wp2_with ((refine (len_calls HG.out HL.out).mono ?_)
               rintro e w' ⟨rfl, q, rfl⟩)
  · go_ret
    exact ⟨rfl, q, rfl⟩
  · go_ret
    exact ⟨rfl, 0, rfl⟩

set_option maxRecDepth 100000 in
set_option maxHeartbeats 2000000 in
theorem Delete_calls {w : World} {tb : Nat} {S S' : TS} {F : Blocks} (h : TMem w tb S F) {n i f : Nat} (hl : S.len = some n) (hi : i < n) (hn : n < 1048576) (hs : TS.deleteTop f S i = some S') :
    Calls Tryz.prog 159 #[.pointer (some ⟨tb, 0, none⟩), .int .i64 (i : Int)] w fun e w' => e = .returned (.bool true) ∧ ∃ by_ : Int, TPost w F w' tb { S' with bytes := by_ } := by
  have HG : Kp _ := ⟨h⟩
  have HL : Kp _ := ⟨hl⟩
  have hib : i < 1048576 := by omega
  have hii : ¬ ((n : Int) ≤ (i : Int)) := by omega
  obtain ⟨z, Sa, x, hrm, hx, hd⟩ := deleteTop_inv hs
  have HRM : Kp _ := ⟨hrm⟩
  have HX : Kp _ := ⟨hx⟩
  have HD : Kp _ := ⟨hd⟩
  have HF : Kp (∀ b, F b → b < w.heap.size) := ⟨h.lt⟩
  clear h hl hd hs hrm hx
  go_enter Tryz.func159, Tryz.ntmps159
  go_wp2_with fail
  refine (len_calls HG.out HL.out).mono ?_
  rintro e w' ⟨rfl, q, rfl⟩
  have HP : Kp _ := ⟨HG.out.drewN q⟩
  have HK : Kp (Keep w F (w.drewN q)) := ⟨(Keep.refl w F).drewN q⟩
  generalize w.drewN q = W at *
  clear HG HL
  obtain ⟨b0, h2, h3, z2, z3, htb⟩ := HP.out.head
  obtain ⟨R0, hm0, -⟩ := HP.out.ex
  have hb0 : b0 = S.bytes := by have := hm0.cell3; rw [h3] at this; cases this; rfl
  subst hb0
  clear hm0
  go_wp2_with fail
  refine wp_region_plan (fun W => W.cell? ⟨tb, 2, none⟩ = some (.int .i64 (S.root : Int)) ∧ W.cell? ⟨tb, 3, none⟩ = some (.int .i64 S.bytes))
    [(true, 0), (true, 1), (true, 2), (true, 3), (true, 4), (true, 5), (true, 6), (true, 7), (true, 8), (true, 9), (false, 10), (true, 11), (true, 12)] 13 (by kernel_rfl) (by kernel_rfl) (fun _ _ d _ _ h => by cases d <;> exact h) (by go_simp) ?_
  iterate 10
    (refine' plan_read _ rfl rfl ?_ ?_
     rotate_left
     · (intro W hW; (try dsimp only at hW); go_simp; try rfl)
     simp only [Act.put, List.setIfInBounds_toArray, List.set_cons_zero, List.set_cons_succ])
  refine plan_do _ rfl ?_
  go_wp2_with fail
  refine (remove_calls f HP.out.drew HRM.out hib).mono ?_
  rintro e W1 ⟨rfl, p1⟩
  have P1 : Kp (TPost W F W1 tb Sa) := ⟨TPost.pre ((Keep.refl W F).drew) p1 (Fresh.refl _ _) HP.out.lt⟩
  obtain ⟨hby, hroot⟩ := remove_same HRM.out
  obtain ⟨R1, hm1, hRF1⟩ := P1.out.mem.ex
  have g2 := hm1.cell2
  have g3 := hm1.cell3
  obtain ⟨nb, r, hnb, hna, hr, hk, hle, hmax, -, c1, -⟩ := hm1.node HX.out
  have g0 := hm1.cell0
  rw [hna] at g0
  rw [hroot] at g2 c1 hk
  rw [hby] at g3
  have y3 := hm1.frozen 3
  have htb1 : tb < W1.heap.size := hm1.lt (.inl rfl)
  have htn : nb ≠ tb := fun e => hm1.nodes.ne_blk hm1.hd (by decide) (e ▸ hnb)
  have hks := hm1.kids hr HX.out
  have hkc := hks.le
  have hkm := hks.max
  have HKS : Kp _ := ⟨hks⟩
  have HM1 : Kp _ := ⟨hm1⟩
  have HRF1 : Kp _ := ⟨hRF1⟩
  have HNB : Kp _ := ⟨hnb⟩
  have HR1 : Kp _ := ⟨hr⟩
  have HROOT : Kp _ := ⟨hroot⟩
  clear hks hm1 hRF1 hnb hna hr p1 hby hroot h2 h3 z2 z3 htb
  go_wp2_with fail
  refine ⟨⟨g2, g3⟩, ?_⟩
  iterate 2
    (refine' plan_read _ rfl rfl ?_ ?_
     rotate_left
     · (intro W hW; (try dsimp only at hW); go_simp; try rfl)
     simp only [Act.put, List.setIfInBounds_toArray, List.set_cons_zero, List.set_cons_succ])
  refine plan_end ?_
  try simp only [List.drop_succ_cons, List.drop_zero]
  go_wp2_with fail
  have hm2 := (HM1.out.setBytes (wrap64 (S.bytes - (z.size : Int)))).1
  have P2 : Kp (TPost W F (W1.setCell ⟨tb, 3, none⟩ (.int .i64 (wrap64 (S.bytes - (z.size : Int))))) tb { Sa with bytes := wrap64 (S.bytes - (z.size : Int)) }) := ⟨P1.out.setBytes _⟩
  have q2 := hm2.cell2
  obtain ⟨q0, -, -, -, -, q1, -⟩ := TM.cells hm2 (show ({ Sa with bytes := wrap64 (S.bytes - (z.size : Int)) } : TS).nodes[Sa.root]? = some x from HX.out) HR1.out HNB.out
  try dsimp only at q0 q1 q2
  rw [HROOT.out] at q1 q2
  have HM2 : Kp _ := ⟨hm2⟩
  have HKS2 : Kp _ := ⟨hm2.kids HR1.out (show ({ Sa with bytes := wrap64 (S.bytes - (z.size : Int)) } : TS).nodes[Sa.root]? = some x from HX.out)⟩
  have HSZ : Kp (W1.heap.size ≤ (W1.setCell ⟨tb, 3, none⟩ (.int .i64 (wrap64 (S.bytes - (z.size : Int))))).heap.size) := ⟨by simp [World.setCell]⟩
  generalize W1.setCell ⟨tb, 3, none⟩ (.int .i64 (wrap64 (S.bytes - (z.size : Int)))) = W2 at *
  clear g0 g2 g3 c1 y3 htb1 hm2 HM1 P1
  have hkI : (S.root : Int) < (Sa.nodes.length : Int) := by omega
  go_quiet (fail)
  have P3 : Kp (TPost W F (W2.drewN nq) tb { Sa with bytes := wrap64 (S.bytes - (z.size : Int)) }) := ⟨P2.out.trans (P2.out.mem.quiet nq)⟩
  have HM3 : Kp _ := ⟨HM2.out.drewN nq⟩
  have HKS3 : Kp _ := ⟨HKS2.out.keep ((Keep.refl W2 NoB).drewN nq) fun _ _ h => h⟩
  have HRF3 : Kp (∀ b, R1.F tb b → Ext F W (W2.drewN nq) b) := ⟨fun b hb => (HRF1.out b hb).imp id fun h => ⟨h.1, Nat.lt_of_lt_of_le h.2 HSZ.out⟩⟩
  generalize W2.drewN nq = W3 at *
  clear HM2 HKS2 P2 HSZ HKS HRF1 q0 q1 q2
  rcases HD.out with ⟨hne, rfl⟩ | ⟨kid, S2, hkk, hdr, rfl⟩
  · have hne' : ¬ ((x.kids.length : Int) = 1) := by omega
    go_wp2_with fail
    go_ret
    exact ⟨rfl, _, TPost.pre HK.out P3.out (Fresh.refl _ _) HF.out⟩
  · have hone : x.kids.length = 1 := by rw [hkk]; rfl
    obtain ⟨kb, hkb, hka⟩ := HKS3.out.nonnil (by omega)
    have hkid : x.kids[0]? = some kid := by rw [hkk]; rfl
    have hcell := HKS3.out.cell hkb (vint_get hkid)
    have HCELL : Kp _ := ⟨hcell⟩
    have HKB : Kp _ := ⟨hkb⟩
    have HDR : Kp _ := ⟨drop_bytes hdr (wrap64 (S.bytes - (z.size : Int)))⟩
    have q2 := HM3.out.cell2
    try dsimp only at q2
    rw [HROOT.out] at q2
    rw [hone, hka]
    clear hcell hkb hkid hdr hka hkk
    go_wp2_with fail
    have mk := drop_tm P3.out.mem HM3.out HRF3.out HDR.out
    rw [HROOT.out] at mk
    refine mk.mono ?_
    clear mk
    rintro e W4 ⟨rfl, p4, -, -, -, -, -, k4⟩
    have hkn : ¬ (kb = tb ∨ R1.nb = some kb ∨ R1.fb = some kb) := by
      rintro (e | e | e)
      · exact HKS3.out.ne_blk HM3.out.hd (by decide) (e ▸ HKB.out)
      · exact HKS3.out.types HM3.out.nodes (by decide) HKB.out e
      · exact HM3.out.kfree HR1.out HKB.out e
    have c4 := k4.cell HCELL.out hkn
    have P4 : Kp _ := ⟨P3.out.trans p4⟩
    obtain ⟨-, q2, -, y2, -, htb4⟩ := P4.out.mem.head
    clear k4 p4 hkn P3 HM3 HRF3 HKS3
    go_wp2_with fail
    go_ret
    exact ⟨rfl, _, TPost.pre HK.out (P4.out.setRoot kid) (Fresh.refl _ _) HF.out⟩

theorem delete_text {w : World} {tb : Nat} {l : List ByteArray} {F : Blocks} (h : TText w tb l F) {i : Nat} (hi : i < l.length) :
    Calls Tryz.prog 159 #[.pointer (some ⟨tb, 0, none⟩), .int .i64 (i : Int)] w fun e w' => e = .returned (.bool true) ∧ TTPost w F w' tb (l.eraseIdx i) := by
  obtain ⟨S, g, p⟩ := h
  obtain ⟨f, S', h1, g'⟩ := g.delete i hi
  have hmost := g.bounds.2
  simp only [most] at hmost
  refine (Delete_calls p g.len hi (by omega) h1).mono ?_
  rintro e w' ⟨rfl, by_, p'⟩
  exact ⟨rfl, _, g'.setBytes by_, p'⟩
theorem delete_text_out {w : World} {tb : Nat} {l : List ByteArray} {F : Blocks} (h : TText w tb l F) {i : Int} (hi : i < 0 ∨ (l.length : Int) ≤ i) :
    Calls Tryz.prog 159 #[.pointer (some ⟨tb, 0, none⟩), .int .i64 i] w fun e w' => e = .returned (.bool false) ∧ ∃ q, w' = w.drewN q := by
  obtain ⟨S, g, p⟩ := h
  exact Delete_out p g.len hi

end Go.Proofs

/- The walks of span, Part and Splice. -/
namespace Go.Proofs
open Go.RowKit Go.Em

set_option maxRecDepth 100000 in
set_option maxHeartbeats 1000000 in
theorem span_true {w : World} {tb : Nat} {l : List ByteArray} {F : Blocks} (h : TText w tb l F) {i n : Nat} (hi : i + n ≤ l.length) :
    Calls Tryz.prog 144 #[.pointer (some ⟨tb, 0, none⟩), .int .i64 (i : Int), .int .i64 (n : Int)] w fun e w' => e = .returned (.bool true) ∧ ∃ q, w' = w.drewN q := by
  have hmost := h.most
  have HT : Kp _ := ⟨h⟩
  have h1 : (i : Int) ≤ (l.length : Int) := by omega
  have h2 : (n : Int) ≤ (l.length : Int) - (i : Int) := by omega
  clear h
  go_enter Tryz.func144, Tryz.ntmps144
  go_wp2_with fail
  refine (len_text HT.out).mono ?_
  rintro e w' ⟨rfl, q, rfl⟩
  go_wp2_with fail
  refine (len_text (HT.out.keep ((Keep.refl w NoB).drewN q) fun _ _ h => h)).mono ?_
  rintro e w' ⟨rfl, q2, rfl⟩
  go_wp2_with fail
  go_ret
  exact ⟨rfl, q + q2, rfl⟩

set_option maxRecDepth 100000 in
set_option maxHeartbeats 1000000 in
theorem span_false {w : World} {tb : Nat} {l : List ByteArray} {F : Blocks} (h : TText w tb l F) {i n : Int} (hi : i < 0 ∨ n < 0 ∨ (l.length : Int) < i ∨ (0 ≤ i ∧ i ≤ (l.length : Int) ∧ (l.length : Int) - i < n)) :
    Calls Tryz.prog 144 #[.pointer (some ⟨tb, 0, none⟩), .int .i64 i, .int .i64 n] w fun e w' => e = .returned (.bool false) ∧ ∃ q, w' = w.drewN q := by
  have hmost := h.most
  have HT : Kp _ := ⟨h⟩
  clear h
  go_enter Tryz.func144, Tryz.ntmps144
  go_wp2_with (first
    | ((with_reducible refine (len_text HT.out).mono ?_)
       rintro e w' ⟨rfl, q, rfl⟩)
    | ((refine (len_text (HT.out.keep ((Keep.refl w NoB).drewN _) fun _ _ h => h)).mono ?_)
       rintro e w' ⟨rfl, q2, rfl⟩))
  · go_ret
    have h1 : ¬ n ≤ (l.length : Int) - i := by omega
    exact ⟨by simp [h1], q + q2, rfl⟩
  · go_ret
    exact ⟨rfl, q, rfl⟩
  · go_ret
    exact ⟨rfl, 0, rfl⟩
  · go_ret
    exact ⟨rfl, 0, rfl⟩

set_option maxRecDepth 100000 in
set_option maxHeartbeats 1000000 in
theorem part_false {w : World} {tb : Nat} {l : List ByteArray} {F : Blocks} (h : TText w tb l F) {i n : Int} (hi : i < 0 ∨ n < 0 ∨ (l.length : Int) < i ∨ (0 ≤ i ∧ i ≤ (l.length : Int) ∧ (l.length : Int) - i < n)) :
    Calls Tryz.prog 111 #[.pointer (some ⟨tb, 0, none⟩), .int .i64 i, .int .i64 n] w fun e w' => e = .returned (.tuple #[.slice none 0 0, .bool false]) ∧ ∃ q, w' = w.drewN q := by
  have HT : Kp _ := ⟨h⟩
  have HI : Kp _ := ⟨hi⟩
  clear h hi
  go_enter Tryz.func111, Tryz.ntmps111
  go_wp2_with ((refine (span_false HT.out HI.out).mono ?_)
               rintro e w' ⟨rfl, q, rfl⟩)
  go_ret2
  exact ⟨rfl, q, rfl⟩

theorem part_get {l : List ByteArray} {i k : Nat} {x : ByteArray} (h : l[i + k]? = some x) : (l.drop i).take k ++ [x] = (l.drop i).take (k + 1) := by
  rw [List.take_add_one, List.getElem?_drop, h]
  rfl

set_option maxRecDepth 100000 in
set_option maxHeartbeats 1000000 in
theorem part_true {w : World} {tb : Nat} {l : List ByteArray} {F : Blocks} (h : TText w tb l F) {i n : Nat} (hi : i + n ≤ l.length) :
    Calls Tryz.prog 111 #[.pointer (some ⟨tb, 0, none⟩), .int .i64 (i : Int), .int .i64 (n : Int)] w fun e w' => ∃ a c b, e = .returned (.tuple #[.slice a n c, .bool true]) ∧
      Sl w' 9 1 a n c (vstr ((l.drop i).take n)) b ∧ Keep w NoB w' ∧ Fresh w NoB (Opt b) := by
  have HT : Kp _ := ⟨h⟩
  have HI : Kp _ := ⟨hi⟩
  have hmost := h.most
  clear h
  go_enter Tryz.func111, Tryz.ntmps111
  go_wp2_with ((refine (span_true HT.out HI.out).mono ?_)
               rintro e w' ⟨rfl, q, rfl⟩)
  have HK : Kp (Keep w NoB (w.drewN q)) := ⟨(Keep.refl w NoB).drewN q⟩
  generalize w.drewN q = W at *
  go_loopw [18, 8] (fun j o wr => ∃ (k : Nat) (a2 : Option Addr) (c2 : Nat) (b2 : Option Nat), k ≤ n ∧ j = .int .i64 (k : Int) ∧ o = .slice a2 k c2 ∧
      Kp (Sl wr 9 1 a2 k c2 (vstr ((l.drop i).take k)) b2) ∧ Kp (Keep w NoB wr) ∧ Kp (Fresh w NoB (Opt b2))) (fun j _ _ => n - (intOf j).toNat)
  case atStart => exact ⟨0, none, 0, none, Nat.zero_le _, rfl, rfl, ⟨by simpa [vstr] using Sl.nil _ _ _⟩, HK, ⟨fun b hb => by cases hb⟩⟩
  case round =>
    obtain ⟨k, a2, c2, b2, hk, rfl, rfl, HS, HKr, HFr⟩ := hrel
    by_cases hlt : k < n
    · obtain ⟨x, hx⟩ : ∃ x, l[i + k]? = some x := ⟨_, List.getElem?_eq_getElem (by omega)⟩
      have HX : Kp _ := ⟨hx⟩
      have HTr : Kp _ := ⟨HT.out.keep HKr.out fun _ _ h => h⟩
      have hcl := HS.out.le
      have hcm := HS.out.max
      have hib : i < 1048576 := by omega
      have hkb : k < 1048576 := by omega
      have hik : (i : Int) + (k : Int) = ((i + k : Nat) : Int) := by omega
      have HIK : Kp _ := ⟨hik⟩
      clear hx hik hmost hi
      go_wp2_with fail
      rw [HIK.out]
      refine (get_text HTr.out HX.out).mono ?_
      rintro e w' ⟨rfl, q, rfl⟩
      have HK2 : Kp (Keep w NoB ((wr.drewN q).alloc (.cells #[.string x] 9))) := ⟨(HKr.out.drewN q).alloc _⟩
      have HS2 : Kp _ := ⟨HS.out.keep (((Keep.refl wr NoB).drewN q).alloc (.cells #[.string x] 9)) fun _ _ h => h⟩
      have hW : ((wr.drewN q).alloc (.cells #[.string x] 9)).heap[wr.heap.size]? = some (.cells #[.string x] 9 (0, 0)) := heap_alloc_new (wr.drewN q) _
      have HRD : Kp (Rd ((wr.drewN q).alloc (.cells #[.string x] 9)) 1 (some ⟨wr.heap.size, 0, none⟩) 1 [.string x]) := ⟨rfl, fun j u hj => ⟨⟨wr.heap.size, 0, none⟩, rfl, by rw [Addr.add_lit, Nat.zero_add, cell_blk hW]; simpa using hj⟩, fun u hu => by simp at hu; subst hu; rfl⟩
      clear hW
      go_wp2_with (at_builtin
                   refine wpList_append_rd rfl _ _ 22 rfl 9 _ 1 16 Tryz.underlying22 info_str rfl (by decide) HS2.out rfl HRD.out rfl (by omega) (by omega) ?_
                   intro a3 c3 b3 w3 s3 k3 f3
                   have S3 : Kp _ := ⟨s3⟩
                   have K3 : Kp _ := ⟨k3⟩
                   have F3 : Kp _ := ⟨f3⟩
                   clear s3 k3 f3)
      have hv : vstr ((l.drop i).take k) ++ [.string x] = vstr ((l.drop i).take (k + 1)) := by rw [← part_get HX.out]; simp [vstr]
      have s3 := S3.out
      rw [hv] at s3
      have S4 : Kp _ := ⟨s3⟩
      have K4 : Kp (Keep w NoB w3) := ⟨HK2.out.trans (K3.out.mono (G := Opt b2) fun _ h => h) HFr.out⟩
      have F4 : Kp (Fresh w NoB (Opt b3)) := ⟨HFr.out.trans (Nat.le_trans HK2.out.size (Nat.le_refl _)) F3.out⟩
      clear s3 hv
      go_roundw
      case rel => exact ⟨k + 1, a3, c3, b3, by omega, by go_num, rfl, S4, K4, F4⟩
      case measure => simp [intOf]; omega
    · have hke : k = n := by omega
      subst hke
      go_wp2
      go_ret2
      exact ⟨_, _, _, rfl, HS.out, HKr.out, HFr.out⟩

end Go.Proofs

/- The walk of Splice. -/
namespace Go.Proofs
open Go.RowKit Go.Em

theorem TTPost.pre {w w5 w8 : World} {F : Blocks} {tb : Nat} {l : List ByteArray} (hk : Keep w F w5) (k : TTPost w5 F w8 tb l) (hF : ∀ b, F b → b < w.heap.size) : TTPost w F w8 tb l := by
  obtain ⟨S, g, p⟩ := k
  exact ⟨S, g, TPost.pre hk p (Fresh.refl _ _) hF⟩

theorem at_split {α : Type} {l : List α} {p : Nat} (h : p < l.length) : ∃ y, l.drop p = y :: l.drop (p + 1) := ⟨l[p], by rw [← List.drop_eq_getElem_cons h]⟩

theorem splice_set {l ls : List ByteArray} {i k : Nat} {x : ByteArray} (hx : ls[k]? = some x) (hl : i + k < l.length) :
    (l.take i ++ ls.take k ++ l.drop (i + k)).set (i + k) x = l.take i ++ ls.take (k + 1) ++ l.drop (i + (k + 1)) := by
  obtain ⟨y, hy⟩ := at_split hl
  have hlen : (l.take i ++ ls.take k).length = i + k := by
    have := (List.getElem?_eq_some_iff.1 hx).1
    simp; omega
  rw [hy, List.take_add_one, hx, List.set_append_right _ _ (by omega), hlen]
  simp [Nat.add_assoc]
theorem splice_del {l A : List ByteArray} {p q : Nat} (hA : A.length = p) (hl : q < l.length) : (A ++ l.drop q).eraseIdx p = A ++ l.drop (q + 1) := by
  obtain ⟨y, hy⟩ := at_split hl
  rw [hy, List.eraseIdx_append_of_length_le (by omega), hA]
  simp
theorem splice_ins {A B : List ByteArray} {p : Nat} (hA : A.length = p) (x : ByteArray) : ins (A ++ B) p x = A ++ [x] ++ B := by
  subst hA
  simp [ins]

set_option maxRecDepth 100000 in
set_option maxHeartbeats 2000000 in
theorem splice_true {w : World} {tb : Nat} {l : List ByteArray} {F : Blocks} (h : TText w tb l F) {i n m c : Nat} {a : Option Addr} {ls : List ByteArray} (hi : i + n ≤ l.length) (hr : Rd w 1 a m (vstr ls)) (hmc : m ≤ c) (hcm : c ≤ 9223372036854775807)
    (hout : ∀ ad, a = some ad → ¬ F ad.block) (hlim : l.length - n + m ≤ 100000) :
    Calls Tryz.prog 145 #[.pointer (some ⟨tb, 0, none⟩), .int .i64 (i : Int), .int .i64 (n : Int), .slice a m c] w fun e w' => e = .returned (.bool true) ∧ TTPost w F w' tb (l.take i ++ ls ++ l.drop (i + n)) := by
  have HT : Kp _ := ⟨h⟩
  have HI : Kp _ := ⟨hi⟩
  have HMOST : Kp _ := ⟨h.most⟩
  have HR : Kp _ := ⟨hr⟩
  have HOUT : Kp _ := ⟨hout⟩
  have HLIM : Kp _ := ⟨hlim⟩
  have hml : ls.length = m := by have := hr.len; rw [vstr_length, Nat.mul_one] at this; exact this
  have HML : Kp _ := ⟨hml⟩
  have hib : i < 1048576 := by have := h.most; omega
  have hnb : n < 1048576 := by have := h.most; omega
  have hmb : m < 1048576 := by omega
  obtain ⟨s, hs, hsn, hsm⟩ : ∃ s : Nat, min (n : Int) (m : Int) = (s : Int) ∧ s ≤ n ∧ s ≤ m := ⟨min n m, by omega, by omega, by omega⟩
  have hs3 : s = n ∨ s = m := by omega
  have HS3 : Kp _ := ⟨hs3⟩
  clear h hi hr hout hlim hml hs3
  go_enter Tryz.func145, Tryz.ntmps145
  go_wp2_with ((refine (span_true HT.out HI.out).mono ?_)
               rintro e w' ⟨rfl, q, rfl⟩)
  have HK : Kp (Keep w F (w.drewN q)) := ⟨(Keep.refl w F).drewN q⟩
  have HF : Kp (∀ b, F b → b < w.heap.size) := ⟨HT.out.lt⟩
  have HT0 : Kp (TText (w.drewN q) tb l F) := ⟨HT.out.keep ((Keep.refl w NoB).drewN q) fun _ _ h => h⟩
  have HR0 : Kp (Rd (w.drewN q) 1 a m (vstr ls)) := ⟨HR.out.keep ((Keep.refl w NoB).drewN q) fun _ _ h => h⟩
  generalize w.drewN q = W at *
  clear hs HR HT
  go_loopw [27] (fun j wr => ∃ k : Nat, k ≤ s ∧ j = .int .i64 (k : Int) ∧ Kp (TTPost W F wr tb (l.take i ++ ls.take k ++ l.drop (i + k)))) (fun j _ => s - (intOf j).toNat)
  case atStart => exact ⟨0, Nat.zero_le _, rfl, ⟨by simpa using HT0.out.refl⟩⟩
  case round =>
    obtain ⟨k, hk, rfl, HP⟩ := hrel
    by_cases hlt : k < s
    · have hil := HI.out
      have hml := HML.out
      obtain ⟨x, hx⟩ : ∃ x, ls[k]? = some x := ⟨_, List.getElem?_eq_getElem (by omega)⟩
      obtain ⟨ad, hae, hcell⟩ := rd_cell (HR0.out.keep HP.out.keep HOUT.out) hx
      have HX : Kp _ := ⟨hx⟩
      have HAE : Kp _ := ⟨hae⟩
      have hkb : k < 1048576 := by omega
      have hsc : s ≤ c := by omega
      have HIK : Kp ((i : Int) + (k : Int) = ((i + k : Nat) : Int)) := ⟨by omega⟩
      have HL1 : Kp (i + k < (l.take i ++ ls.take k ++ l.drop (i + k)).length) := ⟨by simp; omega⟩
      have HL2 : Kp (i + k < l.length) := ⟨by omega⟩
      rw [hae]
      clear hx hae hil hml
      go_wp2_with fail
      rw [HIK.out]
      refine (set_text HP.out.text HL1.out x).mono ?_
      rintro e w' ⟨rfl, p2⟩
      rw [splice_set HX.out HL2.out] at p2
      have HP2 : Kp _ := ⟨HP.out.trans p2⟩
      clear p2 hcell
      go_wp2_with fail
      go_roundw
      case rel => exact ⟨k + 1, by omega, by go_num, HP2⟩
      case measure => simp [intOf]; omega
    · have hke : k = s := by omega
      subst hke
      obtain ⟨d, hd, hkd⟩ : ∃ d : Nat, (n : Int) - (k : Int) = (d : Int) ∧ k + d = n := ⟨n - k, by omega, by omega⟩
      have HKD : Kp _ := ⟨hkd⟩
      have hlk : (ls.take k).length = k := by have := HML.out; rw [List.length_take]; omega
      have hli : (l.take i).length = i := by have := HI.out; rw [List.length_take]; omega
      have HLK : Kp _ := ⟨hlk⟩
      have HLI : Kp _ := ⟨hli⟩
      have hdb : d < 1048576 := by omega
      have hkb : k < 1048576 := by omega
      have hkc : k ≤ c := by omega
      clear hkd hlk hli hlt
      go_wp2_with fail
      go_loopw [42] (fun j wr => ∃ t : Nat, t ≤ d ∧ j = .int .i64 (t : Int) ∧ Kp (TTPost W F wr tb (l.take i ++ ls.take k ++ l.drop (i + k + t)))) (fun j _ => d - (intOf j).toNat)
      case atStart => exact ⟨0, Nat.zero_le _, rfl, HP⟩
      case round =>
        obtain ⟨t, ht, rfl, HPt⟩ := hrel
        by_cases hlt : t < d
        · have HIK : Kp ((i : Int) + (k : Int) = ((i + k : Nat) : Int)) := ⟨by omega⟩
          have HL1 : Kp (i + k < (l.take i ++ ls.take k ++ l.drop (i + k + t)).length) := ⟨by
            have h1 := HLK.out
            have h2 := HLI.out
            have h3 := HKD.out
            have h4 := HI.out
            rw [List.length_append, List.length_append, h1, h2, List.length_drop]; omega⟩
          have HL2 : Kp (i + k + t < l.length) := ⟨by have h3 := HKD.out; have h4 := HI.out; omega⟩
          go_wp2_with fail
          rw [HIK.out]
          refine (delete_text HPt.out.text HL1.out).mono ?_
          rintro e w' ⟨rfl, p2⟩
          rw [splice_del (by rw [List.length_append, HLK.out, HLI.out]) HL2.out] at p2
          have HP2 : Kp _ := ⟨HPt.out.trans p2⟩
          clear p2
          go_wp2_with fail
          go_roundw
          case rel => exact ⟨t + 1, by omega, by go_num, HP2⟩
          case measure => simp [intOf]; omega
        · have hte : t = d := by omega
          subst hte
          have HPd : Kp (TTPost W F wr tb (l.take i ++ ls.take k ++ l.drop (i + n))) := ⟨by have := HPt.out; rw [show i + k + t = i + n by have := HKD.out; omega] at this; exact this⟩
          clear HPt hlt HP
          by_cases hck : c = k
          · have hmk : m = k := by omega
            subst hck
            subst hmk
            go_wp2_with fail
            go_loopw [54] (fun j wr => j = .int .i64 0 ∧ Kp (TTPost W F wr tb (l.take i ++ ls ++ l.drop (i + n)))) (fun _ _ => 0)
            case atStart => exact ⟨rfl, ⟨by have := HPd.out; rw [show ls.take m = ls from List.take_of_length_le (by have := HML.out; omega)] at this; exact this⟩⟩
            case round =>
              obtain ⟨rfl, HPe⟩ := hrel
              go_wp2_with fail
              go_ret
              exact ⟨rfl, TTPost.pre HK.out HPe.out HF.out⟩
          · have hck2 : k ≠ c := fun e => hck e.symm
            have hrd := HR0.out.drop (c := c) k hmc
            rw [if_neg hck, Nat.mul_one] at hrd
            have HRD : Kp _ := ⟨hrd⟩
            have hnF : Kp (∀ ad, a.map (·.add k) = some ad → ¬ F ad.block) := ⟨fun ad h => by
              obtain ⟨ad0, h1, rfl⟩ := Option.map_eq_some_iff.1 h
              have hb : (ad0.add k).block = ad0.block := by unfold Addr.add; split <;> rfl
              rw [hb]; exact HOUT.out ad0 h1⟩
            clear hrd
            go_wp2_with fail
            go_loopw [54] (fun j wr => ∃ u : Nat, u ≤ m - k ∧ j = .int .i64 (u : Int) ∧ Kp (TTPost W F wr tb (l.take i ++ ls.take (k + u) ++ l.drop (i + n)))) (fun j _ => m - k - (intOf j).toNat)
            case atStart => exact ⟨0, Nat.zero_le _, rfl, HPd⟩
            case round =>
              obtain ⟨u, hu, rfl, HPu⟩ := hrel
              by_cases hlt : u < m - k
              · have hml := HML.out
                obtain ⟨x, hx⟩ : ∃ x, ls[k + u]? = some x := ⟨_, List.getElem?_eq_getElem (by omega)⟩
                have hxd : ((vstr ls).drop k)[u]? = some (.string x) := by rw [List.getElem?_drop]; exact vstr_get hx
                obtain ⟨ad, hae, hcell⟩ := (HRD.out.keep HPu.out.keep hnF.out).cells u _ hxd
                have HX : Kp _ := ⟨hx⟩
                have hub : u < 1048576 := by omega
                have HIK : Kp ((i : Int) + (k : Int) + (u : Int) = ((i + k + u : Nat) : Int)) := ⟨by omega⟩
                have hla : (l.take i ++ ls.take (k + u)).length = i + k + u := by
                  have h2 := HLI.out
                  rw [List.length_append, h2, List.length_take]; omega
                have HLA : Kp _ := ⟨hla⟩
                have HL1 : Kp (i + k + u ≤ (l.take i ++ ls.take (k + u) ++ l.drop (i + n)).length) := ⟨by rw [List.length_append, hla]; omega⟩
                have HL2 : Kp ((l.take i ++ ls.take (k + u) ++ l.drop (i + n)).length < 100000) := ⟨by
                  have h1 := HI.out
                  have h2 := HLIM.out
                  rw [List.length_append, hla, List.length_drop]; omega⟩
                rw [hae]
                clear hx hae hml hxd hla
                go_wp2_with fail
                rw [HIK.out]
                refine (insert_text HPu.out.text HL1.out HL2.out x).mono ?_
                rintro e w' ⟨rfl, p2⟩
                rw [splice_ins HLA.out] at p2
                have he : l.take i ++ ls.take (k + u) ++ [x] ++ l.drop (i + n) = l.take i ++ ls.take (k + (u + 1)) ++ l.drop (i + n) := by
                  rw [show k + (u + 1) = k + u + 1 by omega, List.take_add_one, HX.out]
                  simp
                rw [he] at p2
                have HP2 : Kp _ := ⟨HPu.out.trans p2⟩
                clear p2 hcell he
                go_wp2_with fail
                go_roundw
                case rel => exact ⟨u + 1, by omega, by go_num, HP2⟩
                case measure => simp [intOf]; omega
              · have hue : u = m - k := by omega
                subst hue
                go_wp2_with fail
                go_ret
                refine ⟨rfl, TTPost.pre HK.out ?_ HF.out⟩
                have := HPu.out
                rw [show ls.take (k + (m - k)) = ls from List.take_of_length_le (by have := HML.out; omega)] at this
                exact this

end Go.Proofs

/- A text that is worked on, in memory. -/
namespace Go.Proofs
open Go.RowKit Go.Em

/-- What a text holds; what is gone back to, and the states, as they lie there. -/
structure BS where
  lines : List ByteArray
  at_ : Int
  marks : Int → Option Int
  opens : List Value
  sl : Value
  sm : Value
  sc : Value
  ub : Value

def BCells (S : BS) (tb kb : Nat) (oa : Option Addr) (on oc : Nat) : Array Value :=
  #[.pointer (some ⟨tb, 0, none⟩), S.sl, S.sm, S.sc, .pointer (some ⟨kb, 0, none⟩), S.ub, .slice oa on oc, .int .i64 S.at_]

def BMem (w : World) (bb : Nat) (S : BS) (F : Blocks) : Prop :=
  ∃ (tb kb : Nat) (oa : Option Addr) (on oc : Nat) (ob : Option Nat) (FT FK : Blocks),
    w.heap[bb]? = some (.cells (BCells S tb kb oa on oc) 46 (0, 0)) ∧ TText w tb S.lines FT ∧ KMem w kb S.marks FK ∧ Sl w 187 3 oa on oc S.opens ob ∧
    ¬ FT bb ∧ ¬ FK bb ∧ ob ≠ some bb ∧ Dis FT FK ∧ (∀ g, ob = some g → ¬ FT g ∧ ¬ FK g) ∧ ∀ b, F b ↔ b = bb ∨ FT b ∨ FK b ∨ ob = some b
/-- .. behind a call that changes it. -/
def BPost (w : World) (F : Blocks) (w' : World) (bb : Nat) (S : BS) : Prop := ∃ F', BMem w' bb S F' ∧ Keep w F w' ∧ Fresh w F F'
/-- What is gone back to. -/
def SvMem (w : World) (S : BS) (l : List ByteArray) (m : Int → Option Int) (at_ : Int) (F : Blocks) : Prop :=
  ∃ (a : Option Addr) (c : Nat) (b : Option Nat) (kb : Nat) (FK : Blocks), S.sl = .slice a l.length c ∧ Sl w 9 1 a l.length c (vstr l) b ∧ S.sm = .pointer (some ⟨kb, 0, none⟩) ∧ KMem w kb m FK ∧ S.sc = .int .i64 at_ ∧
    ∀ x, F x ↔ b = some x ∨ FK x

theorem BMem.lt {w : World} {bb : Nat} {S : BS} {F : Blocks} (h : BMem w bb S F) : ∀ b, F b → b < w.heap.size := by
  obtain ⟨tb, kb, oa, on, oc, ob, FT, FK, h1, h2, h3, h4, h5, h6, h7, h8, h9, h10⟩ := h
  intro b hb
  rcases (h10 b).1 hb with rfl | h | h | h
  · exact (Array.getElem?_eq_some_iff.1 h1).1
  · exact h2.lt b h
  · exact h3.lt b h
  · exact h4.lt h
theorem BMem.keep {w w' : World} {bb : Nat} {S : BS} {F G : Blocks} (h : BMem w bb S F) (hk : Keep w G w') (hn : Dis F G) : BMem w' bb S F := by
  obtain ⟨tb, kb, oa, on, oc, ob, FT, FK, h1, h2, h3, h4, h5, h6, h7, h8, h9, h10⟩ := h
  exact ⟨tb, kb, oa, on, oc, ob, FT, FK, hk.blk h1 (hn _ ((h10 _).2 (.inl rfl))), h2.keep hk fun b hb => hn _ ((h10 _).2 (.inr (.inl hb))), h3.keep hk fun b hb => hn _ ((h10 _).2 (.inr (.inr (.inl hb)))),
    h4.keep hk fun g hg => hn _ ((h10 _).2 (.inr (.inr (.inr hg)))), h5, h6, h7, h8, h9, h10⟩
theorem BMem.has {w : World} {bb : Nat} {S : BS} {F : Blocks} (h : BMem w bb S F) : F bb := by
  obtain ⟨tb, kb, oa, on, oc, ob, FT, FK, h1, h2, h3, h4, h5, h6, h7, h8, h9, h10⟩ := h
  exact (h10 _).2 (.inl rfl)
theorem SvMem.keep {w w' : World} {S : BS} {l : List ByteArray} {m : Int → Option Int} {at_ : Int} {F G : Blocks} (h : SvMem w S l m at_ F) (hk : Keep w G w') (hn : Dis F G) : SvMem w' S l m at_ F := by
  obtain ⟨a, c, b, kb, FK, h1, h2, h3, h4, h5, h6⟩ := h
  exact ⟨a, c, b, kb, FK, h1, h2.keep hk fun g hg => hn _ ((h6 _).2 (.inl hg)), h3, h4.keep hk fun b hb => hn _ ((h6 _).2 (.inr hb)), h5, h6⟩
theorem SvMem.lt {w : World} {S : BS} {l : List ByteArray} {m : Int → Option Int} {at_ : Int} {F : Blocks} (h : SvMem w S l m at_ F) : ∀ b, F b → b < w.heap.size := by
  obtain ⟨a, c, b, kb, FK, h1, h2, h3, h4, h5, h6⟩ := h
  intro x hx
  rcases (h6 x).1 hx with e | e
  · exact h2.lt e
  · exact h4.lt x e
theorem BPost.trans {w w1 w2 : World} {F F1 : Blocks} {bb : Nat} {S : BS} (hk : Keep w F w1) (hf : Fresh w F F1) (h : BPost w1 F1 w2 bb S) : BPost w F w2 bb S := by
  obtain ⟨F2, h1, h2, h3⟩ := h
  exact ⟨F2, h1, hk.trans h2 hf, hf.trans hk.size h3⟩
theorem BMem.refl {w : World} {bb : Nat} {S : BS} {F : Blocks} (h : BMem w bb S F) : BPost w F w bb S := ⟨F, h, Keep.refl _ _, Fresh.refl _ _⟩
theorem BPost.draw {w w1 : World} {F : Blocks} {bb : Nat} {S : BS} (h : BMem w bb S F) (hk : Keep w NoB w1) : BPost w F w1 bb S := ⟨F, h.keep hk fun _ _ h => h, hk.mono fun _ h => h.elim, Fresh.refl _ _⟩

/-- The cells of it. -/
theorem BMem.cells {w : World} {bb : Nat} {S : BS} {F : Blocks} (h : BMem w bb S F) :
    ∃ (tb kb : Nat) (oa : Option Addr) (on oc : Nat), w.heap[bb]? = some (.cells (BCells S tb kb oa on oc) 46 (0, 0)) ∧ w.cell? ⟨bb, 0, none⟩ = some (.pointer (some ⟨tb, 0, none⟩)) ∧ w.cell? ⟨bb, 4, none⟩ = some (.pointer (some ⟨kb, 0, none⟩)) ∧
      w.cell? ⟨bb, 6, none⟩ = some (.slice oa on oc) ∧ w.cell? ⟨bb, 7, none⟩ = some (.int .i64 S.at_) ∧ (∀ i, w.frozen? ⟨bb, i, none⟩ = false) ∧ (∃ FT, TText w tb S.lines FT ∧ Dis FT (One bb) ∧ ∀ b, FT b → F b) ∧ ∃ FK, KMem w kb S.marks FK ∧ Dis FK (One bb) := by
  obtain ⟨tb, kb, oa, on, oc, ob, FT, FK, h1, h2, h3, h4, h5, h6, h7, h8, h9, h10⟩ := h
  refine ⟨tb, kb, oa, on, oc, h1, ?_, ?_, ?_, ?_, fun i => free_blk h1 i, ⟨FT, h2, fun b hb e => by cases e; exact h5 hb, fun b hb => (h10 b).2 (.inr (.inl hb))⟩, FK, h3, fun b hb e => by cases e; exact h6 hb⟩
  all_goals
    rw [cell_blk h1]
    rfl

/-- One cell of it is written. -/
theorem BMem.put {w : World} {bb : Nat} {S : BS} {F : Blocks} (h : BMem w bb S F) (v : Int) : BMem (w.setCell ⟨bb, 7, none⟩ (.int .i64 v)) bb { S with at_ := v } F ∧ Keep w (One bb) (w.setCell ⟨bb, 7, none⟩ (.int .i64 v)) := by
  obtain ⟨tb, kb, oa, on, oc, ob, FT, FK, h1, h2, h3, h4, h5, h6, h7, h8, h9, h10⟩ := h
  have hk : Keep w (One bb) (w.setCell ⟨bb, 7, none⟩ (.int .i64 v)) := (Keep.refl w (One bb)).setCell (a := ⟨bb, 7, none⟩) (.inl rfl) _
  refine ⟨⟨tb, kb, oa, on, oc, ob, FT, FK, ?_, h2.keep hk fun b hb e => by cases e; exact h5 hb, h3.keep hk fun b hb e => by cases e; exact h6 hb, h4.keep hk fun g hg e => by cases e; exact h7 hg, h5, h6, h7, h8, h9, h10⟩, hk⟩
  have := Go.Em.heap_setCell_same h1 7 (.int .i64 v)
  exact this

end Go.Proofs

/- A region whose order is open, by a plan that may part where two operations may come next. -/
namespace Go.Em
open Go
section
variable {P : Program} {ops : Array Oper} {Q : Exit → Act → World → Prop}

inductive Pl where
  | done : Pl
  | rd : Nat → Pl → Pl
  | ac : Nat → Pl → Pl
  | two : Nat → Pl → Nat → Pl → Pl

def Pl.depth : Pl → Nat
  | .done => 0
  | .rd _ r => r.depth + 1
  | .ac _ r => r.depth + 1
  | .two _ r _ s => max r.depth s.depth + 1

/-- Number i is carried out, T stands behind it. -/
def wpDo (P : Program) (ops : Array Oper) (Q : Exit → Act → World → Prop) (T : World → Prop) (i : Nat) (K : Act → World → Prop) (a : Act) (w : World) : Prop :=
  ∃ o, ops[i]? = some o ∧ wpList P ops (Exit.then (fun a' w' => T w' ∧ K a' w') Q) [o] a w

def wpPl (P : Program) (ops : Array Oper) (Q : Exit → Act → World → Prop) (T : World → Prop) (zs : List Oper) : Pl → Act → World → Prop
  | .done, a, w => wpList P ops Q zs a w
  | .rd i r, a, w => ∃ o v, ops[i]? = some o ∧ YieldsIf P ops T o v a ∧ wpPl P ops Q T zs r (a.put o.dst v) w
  | .ac i r, a, w => wpDo P ops Q T i (wpPl P ops Q T zs r) a w
  | .two i r j s, a, w => wpDo P ops Q T i (wpPl P ops Q T zs r) a w ∧ wpDo P ops Q T j (wpPl P ops Q T zs s) a w

def plOk (ops : Array Oper) (zs : List Nat) : Pl → Array Bool → Bool
  | .done, listed => endOk ops zs listed
  | .rd i rest, listed => (Region.ready .any ops listed).contains i && Region.free .any ops listed i && !zs.contains i && plOk ops zs rest (listed.setIfInBounds i true) &&
      zs.all (fun z => match ops[z]? with | some o => o.after.any (fun e => Region.binds .any e && e.on == i) | none => true) && zs.all (fun z => listed.getD z true == false)
  | .ac i rest, listed => Region.ready .any ops listed == [i] && plOk ops zs rest (listed.setIfInBounds i true)
  | .two i r j s, listed => Region.ready .any ops listed == [i, j] && plOk ops zs r (listed.setIfInBounds i true) && plOk ops zs s (listed.setIfInBounds j true)

theorem wpDo_op {zs : List Nat} {T : World → Prop} {K : Act → World → Prop} {n j : Nat} {listed : Array Bool} {a : Act} {w : World}
    (hr : ∀ a' w', T w' → K a' w' → wpAnyT P ops Q zs T n (listed.setIfInBounds j true) a' w') (h : wpDo P ops Q T j K a w) :
    wpOp P ops Q j (fun a' w' => TillEnd zs T (listed.setIfInBounds j true) w' ∧ wpAnyT P ops Q zs T n (listed.setIfInBounds j true) a' w') a w := by
  obtain ⟨o, ho, h⟩ := h
  unfold wpOp
  simp only [ho]
  unfold wpList at h
  have key : ∀ a' w', (T w' ∧ K a' w') → TillEnd zs T (listed.setIfInBounds j true) w' ∧ wpAnyT P ops Q zs T n (listed.setIfInBounds j true) a' w' := fun a' w' h' =>
    ⟨fun _ => h'.1, hr a' w' h'.1 h'.2⟩
  have conv : ∀ {K' : Act → World → Prop}, o.wp P a w (wpList P ops (Exit.then K' Q) []) (Exit.then K' Q) → o.wp P a w K' Q := by
    intro K' hh
    unfold Oper.wp at hh ⊢
    generalize (execOp a.eval o).run P w = r at hh ⊢
    cases r with
    | ok x w' =>
      cases x <;> simp only [Oper.upon] at hh ⊢ <;> first
        | exact hh
        | exact Calls.mono hh (fun e w'' he => by cases e <;> exact he)
        | exact Rows.mono hh (fun _ _ he => he)
    | halt x w' => cases x <;> simp only [Oper.upon] at hh ⊢ <;> exact hh
  split
  · rename_i hw
    rw [if_pos hw] at h
    rcases h with h | h
    · exact .inl (Oper.wp_mono key (conv h))
    · exact .inr ⟨h.1, h.2⟩
  · rename_i hw
    rw [if_neg hw] at h
    exact key _ _ h

theorem wpAnyT_pl {T : World → Prop} {zs : List Nat} {zo : List Oper} (hzo : zs.map (ops[·]?) = zo.map some) (hsel : Region.noSelect ops = true) (hQ : ∀ c a d v w, Q (.panic c) (a.put d v) w → Q (.panic c) a w) :
    ∀ (plan : Pl) (fuel : Nat) (listed : Array Bool) (a : Act) (w : World), plOk ops zs plan listed = true → plan.depth + zs.length ≤ fuel → (∀ z, z ∈ zs → z < listed.size) → T w →
      wpPl P ops Q T zo plan a w → wpAnyT P ops Q zs T fuel listed a w
  | .done, fuel, listed, a, w, hc, hf, hzl, _, h => wpAnyT_end zs zo fuel listed a w hc hzo (by simpa [Pl.depth] using hf) (fun z hm => ⟨hm, hzl z hm⟩) h
  | .rd i rest, fuel, listed, a, w, hc, hf, hzl, hT, h => by
    obtain ⟨o, v, ho, hy, h⟩ := h
    simp only [plOk, Bool.and_eq_true] at hc
    obtain ⟨⟨⟨⟨⟨h1, h2⟩, h3⟩, h4⟩, h5⟩, h6⟩ := hc
    cases fuel with
    | zero => simp [Pl.depth] at hf
    | succ n =>
      simp only [Pl.depth] at hf
      refine wpAnyT_first ho (Region.noSelect_spec hsel) (fun c a w => hQ c a o.dst v w) ?_ (by simpa using h3) n listed a w (Region.free_spec ho h2) ?_ (by simpa using h1) hy hT
        (wpAnyT_pl hzo hsel hQ rest n _ _ w h4 (by omega) (fun z hm => by simpa using hzl z hm) hT h)
      · intro z oz hz hoz
        have := List.all_eq_true.1 h5 z hz
        simp only [hoz, Array.any_eq_true, Bool.and_eq_true, beq_iff_eq] at this
        obtain ⟨k, hk, hb, hon⟩ := this
        exact ⟨_, Array.getElem_mem hk, hb, hon⟩
      · intro z hz
        simpa using List.all_eq_true.1 h6 z hz
  | .ac i rest, fuel, listed, a, w, hc, hf, hzl, hT, h => by
    simp only [plOk, Bool.and_eq_true, beq_iff_eq] at hc
    cases fuel with
    | zero => simp [Pl.depth] at hf
    | succ n =>
      simp only [Pl.depth] at hf
      refine ⟨fun h0 => (by rw [h0] at hc; simp at hc), fun j hj => ?_⟩
      rw [hc.1] at hj
      simp at hj
      subst hj
      exact wpDo_op (fun a' w' hT' h' => wpAnyT_pl hzo hsel hQ rest n _ a' w' hc.2 (by omega) (fun z hm => by simpa using hzl z hm) hT' h') h
  | .two i r k s, fuel, listed, a, w, hc, hf, hzl, hT, h => by
    simp only [plOk, Bool.and_eq_true, beq_iff_eq] at hc
    obtain ⟨⟨h1, h2⟩, h3⟩ := hc
    cases fuel with
    | zero => simp [Pl.depth] at hf
    | succ n =>
      simp only [Pl.depth] at hf
      refine ⟨fun h0 => (by rw [h0] at h1; simp at h1), fun j hj => ?_⟩
      rw [h1] at hj
      simp at hj
      rcases hj with rfl | rfl
      · exact wpDo_op (fun a' w' hT' h' => wpAnyT_pl hzo hsel hQ r n _ a' w' h2 (by omega) (fun z hm => by simpa using hzl z hm) hT' h') h.1
      · exact wpDo_op (fun a' w' hT' h' => wpAnyT_pl hzo hsel hQ s n _ a' w' h3 (by omega) (fun z hm => by simpa using hzl z hm) hT' h') h.2

/-- THE LAW: a region whose order is open, by a plan that may part; the operations from k on are the end. -/
theorem wp_region_pl {id : Nat} {l : List Oper} {a : Act} {w : World} (T : World → Prop) (plan : Pl) (k : Nat) (hm : P.follows .mixedOrders = true)
    (hc : (plOk l.toArray (List.range' k (l.length - k)) plan (Array.replicate l.length false) && (Nat.ble (plan.depth + (l.length - k)) l.length) && Nat.ble k l.length && Region.noSelect l.toArray) = true)
    (hQ : ∀ c a d v w, Q (.panic c) (a.put d v) w → Q (.panic c) a w) (hT : T w.drew) (h : wpPl P l.toArray Q T (l.drop k) plan a w.drew) : (Code.region id l.toArray true).wp P Q a w := by
  simp only [Bool.and_eq_true, Nat.ble_eq] at hc
  obtain ⟨⟨⟨h1, h2⟩, h3⟩, h4⟩ := hc
  refine wp_region_any hm (wpAny_of_T (Z := List.range' k (l.length - k)) (T := T) _ _ _ _ ?_)
  have e : l.toArray.size = l.length := by simp
  rw [e]
  refine wpAnyT_pl (zo := l.drop k) (by simpa using range_drop l k) h4 hQ plan _ _ a _ h1 (by simp; omega) (fun z hz => ?_) hT h
  have := List.mem_range'_1.1 hz
  simp; omega

theorem pl_read {T : World → Prop} {zs l : List Oper} {i : Nat} {rest : Pl} {a : Act} {w : World} (o : Oper) {tl : List Oper} (ho : l.drop i = o :: tl) (hw : Region.wanted o (yielded l.toArray a.tmps) = true) {v : Value}
    (h : ∀ W, T W → (execOp a.eval o).run P W = .ok (.value v) W) (k : wpPl P l.toArray Q T zs rest (a.put o.dst v) w) : wpPl P l.toArray Q T zs (.rd i rest) a w := ⟨o, v, drop_at ho, .inl ⟨hw, h⟩, k⟩
theorem pl_skip {T : World → Prop} {zs l : List Oper} {i : Nat} {rest : Pl} {a : Act} {w : World} (o : Oper) {tl : List Oper} (ho : l.drop i = o :: tl) (hw : Region.wanted o (yielded l.toArray a.tmps) = false)
    (k : wpPl P l.toArray Q T zs rest (a.put o.dst undef) w) : wpPl P l.toArray Q T zs (.rd i rest) a w := ⟨o, undef, drop_at ho, .inr ⟨hw, rfl⟩, k⟩
theorem pl_do {T : World → Prop} {zs l : List Oper} {i : Nat} {rest : Pl} {a : Act} {w : World} (o : Oper) {tl : List Oper} (ho : l.drop i = o :: tl)
    (h : wpList P l.toArray (Exit.then (fun a' w' => T w' ∧ wpPl P l.toArray Q T zs rest a' w') Q) [o] a w) : wpPl P l.toArray Q T zs (.ac i rest) a w := ⟨o, drop_at ho, h⟩
theorem pl_two {T : World → Prop} {zs l : List Oper} {i j : Nat} {r s : Pl} {a : Act} {w : World} (o o2 : Oper) {tl tl2 : List Oper} (ho : l.drop i = o :: tl) (ho2 : l.drop j = o2 :: tl2)
    (h : wpList P l.toArray (Exit.then (fun a' w' => T w' ∧ wpPl P l.toArray Q T zs r a' w') Q) [o] a w)
    (h2 : wpList P l.toArray (Exit.then (fun a' w' => T w' ∧ wpPl P l.toArray Q T zs s a' w') Q) [o2] a w) : wpPl P l.toArray Q T zs (.two i r j s) a w := ⟨⟨o, drop_at ho, h⟩, o2, drop_at ho2, h2⟩
theorem pl_end {T : World → Prop} {zs : List Oper} {a : Act} {w : World} (h : wpList P ops Q zs a w) : wpPl P ops Q T zs .done a w := h

/-- Reads one behind the other. -/
def Pl.rds : List Nat → Pl → Pl
  | [], r => r
  | i :: l, r => .rd i (Pl.rds l r)
/-- Reads from one number on, so many. -/
def Pl.run (i : Nat) : Nat → Pl → Pl
  | 0, r => r
  | n + 1, r => .rd i (Pl.run (i + 1) n r)
end
end Go.Em

/- The walks of buf.Line, Cursor, Put, Marks, keep. -/
namespace Go.Proofs
open Go.RowKit Go.Em

theorem cursor_buf {w : World} {bb : Nat} {S : BS} {F : Blocks} (h : BMem w bb S F) :
    Calls Tryz.prog 16 #[.pointer (some ⟨bb, 0, none⟩)] w fun e w' => e = .returned (.int .i64 S.at_) ∧ w = w' := by
  obtain ⟨tb, kb, oa, on, oc, h1, c0, c4, c6, c7, hf, -⟩ := h.cells
  clear h h1 c0 c4 c6 hf
  go_enter Tryz.func16, Tryz.ntmps16
  go_wp2_with fail
  go_ret
  exact ⟨rfl, rfl⟩
theorem marks_buf {w : World} {bb : Nat} {S : BS} {F : Blocks} (h : BMem w bb S F) :
    Calls Tryz.prog 85 #[.pointer (some ⟨bb, 0, none⟩)] w fun e w' => (∃ kb FK, e = .returned (.pointer (some ⟨kb, 0, none⟩)) ∧ KMem w kb S.marks FK) ∧ w = w' := by
  obtain ⟨tb, kb, oa, on, oc, h1, c0, c4, c6, c7, hf, _, FK, hK, -⟩ := h.cells
  have HK : Kp _ := ⟨hK⟩
  clear h h1 c0 c7 c6 hf hK
  go_enter Tryz.func85, Tryz.ntmps85
  go_wp2_with fail
  go_ret
  exact ⟨⟨_, _, rfl, HK.out⟩, rfl⟩

theorem line_buf {w : World} {bb : Nat} {S : BS} {F : Blocks} (h : BMem w bb S F) {i : Nat} {x : ByteArray} (hx : S.lines[i]? = some x) :
    Calls Tryz.prog 13 #[.pointer (some ⟨bb, 0, none⟩), .int .i64 ((i : Int) + 1)] w fun e w' => e = .returned (.tuple #[.string x, .bool true]) ∧ ∃ q, w' = w.drewN q := by
  obtain ⟨tb, kb, oa, on, oc, h1, c0, c4, c6, c7, hf, ⟨FT, hT, -⟩, -⟩ := h.cells
  have HT : Kp _ := ⟨hT⟩
  have HX : Kp _ := ⟨hx⟩
  have hi : i < 100000 := by have := hT.most; have := (List.getElem?_eq_some_iff.1 hx).1; omega
  clear h h1 c4 c7 c6 hf hT hx
  go_enter Tryz.func13, Tryz.ntmps13
  go_wp2_with fail
  rw [show max ((i : Int) + 1) 0 - 1 = (i : Int) by omega]
  refine (get_text HT.out HX.out).mono ?_
  rintro e w' ⟨rfl, q, rfl⟩
  go_wp2_with fail
  go_ret2
  exact ⟨rfl, q, rfl⟩

theorem put_buf {w : World} {bb : Nat} {S : BS} {F : Blocks} (h : BMem w bb S F) (n : Int) :
    Calls Tryz.prog 27 #[.pointer (some ⟨bb, 0, none⟩), .int .i64 n] w fun e w' => e = .returned (.tuple #[]) ∧ BMem w' bb { S with at_ := min (max n 1) (S.lines.length : Int) } F ∧ Keep w F w' := by
  obtain ⟨tb, kb, oa, on, oc, h1, c0, c4, c6, c7, hf, ⟨FT, hT, -⟩, -⟩ := h.cells
  have HT : Kp _ := ⟨hT⟩
  clear h1 c4 c6 hT
  have HB : Kp _ := ⟨h⟩
  clear h
  go_enter Tryz.func27, Tryz.ntmps27
  go_wp2_with fail
  refine (len_text HT.out).mono ?_
  rintro e w' ⟨rfl, q, rfl⟩
  have hp := (HB.out.keep (Keep.drewN (Keep.refl w NoB) q) fun _ _ h => h).put (min (max n 1) (S.lines.length : Int))
  have HP : Kp _ := ⟨hp⟩
  clear hp
  go_wp2_with fail
  refine bodyPost_end (results_none rfl _ _ _) rfl ?_
  refine ⟨rfl, HP.out.1, ((Keep.refl w F).drewN q).trans (HP.out.2.mono fun b e => ?_) (Fresh.refl _ _)⟩
  cases e
  exact HB.out.has

end Go.Proofs

/- The walk of buf.keep. -/
namespace Go.Proofs
open Go.RowKit Go.Em

set_option maxRecDepth 100000 in
set_option maxHeartbeats 2000000 in
theorem keep_buf {w : World} {bb : Nat} {S : BS} {F : Blocks} (h : BMem w bb S F) :
    Calls Tryz.prog 25 #[.pointer (some ⟨bb, 0, none⟩)] w fun e w' => ∃ S' F' FS, e = .returned (.tuple #[]) ∧ BMem w' bb S' F' ∧ S'.lines = S.lines ∧ S'.at_ = S.at_ ∧ S'.marks = S.marks ∧ S'.opens = [] ∧ S'.ub = S.ub ∧
      SvMem w' S' S.lines S.marks S.at_ FS ∧ Dis FS F' ∧ (∀ b, FS b → w.heap.size ≤ b) ∧ (∀ b, F' b → F b) ∧ Keep w F w' := by
  have HLT : Kp _ := ⟨h.lt⟩
  obtain ⟨tb, kb, oa, on, oc, ob, FT, FK, h1, h2, h3, h4, h5, h6, h7, h8, h9, h10⟩ := h
  have c0 : w.cell? ⟨bb, 0, none⟩ = some (.pointer (some ⟨tb, 0, none⟩)) := by rw [cell_blk h1]; rfl
  have c4 : w.cell? ⟨bb, 4, none⟩ = some (.pointer (some ⟨kb, 0, none⟩)) := by rw [cell_blk h1]; rfl
  have c7 : w.cell? ⟨bb, 7, none⟩ = some (.int .i64 S.at_) := by rw [cell_blk h1]; rfl
  have H1 : Kp _ := ⟨h1⟩
  have H2 : Kp _ := ⟨h2⟩
  have H3 : Kp _ := ⟨h3⟩
  have H5 : Kp _ := ⟨h5⟩
  have H6 : Kp _ := ⟨h6⟩
  have H8 : Kp _ := ⟨h8⟩
  have H10 : Kp _ := ⟨h10⟩
  clear h1 h2 h3 h4 h5 h6 h7 h8 h9 h10
  go_enter Tryz.func25, Tryz.ntmps25
  go_wp2_with fail
  refine wp_region_pl (fun W' => W'.cell? ⟨bb, 0, none⟩ = some (.pointer (some ⟨tb, 0, none⟩)) ∧ W'.cell? ⟨bb, 4, none⟩ = some (.pointer (some ⟨kb, 0, none⟩)) ∧ W'.cell? ⟨bb, 7, none⟩ = some (.int .i64 S.at_))
    (.rds [0, 1, 2, 3, 4, 6, 7, 8, 9, 11, 12, 13, 14] (.ac 5 (.ac 10 (.run 15 3 (.ac 18 .done))))) 19 (by kernel_rfl) (by kernel_rfl) (fun _ _ d _ _ h => by cases d <;> exact h) ⟨c0, c4, c7⟩ ?_
  iterate 13
    (refine' pl_read _ rfl rfl ?_ ?_
     rotate_left
     · (intro W' hW'; (try dsimp only at hW'); obtain ⟨q0, q1, q2⟩ := hW'; go_simp; try rfl)
     simp only [Act.put, List.setIfInBounds_toArray, List.set_cons_zero, List.set_cons_succ])
  refine pl_do _ rfl ?_
  go_wp2_with fail
  refine (lines_text (H2.out.keep (Keep.refl w NoB).drew fun _ _ h => h)).mono ?_
  rintro e W1 ⟨sa, sc, sb, rfl, s1, k1, f1⟩
  have k01 : Keep w NoB W1 := (Keep.refl w NoB).drew.trans k1 (Fresh.refl _ _)
  have t1 : W1.cell? ⟨bb, 0, none⟩ = some (.pointer (some ⟨tb, 0, none⟩)) ∧ W1.cell? ⟨bb, 4, none⟩ = some (.pointer (some ⟨kb, 0, none⟩)) ∧ W1.cell? ⟨bb, 7, none⟩ = some (.int .i64 S.at_) := ⟨k01.cell c0 fun h => h, k01.cell c4 fun h => h, k01.cell c7 fun h => h⟩
  have T1 : Kp _ := ⟨t1⟩
  have S1 : Kp _ := ⟨s1⟩
  have K1 : Kp _ := ⟨k01⟩
  have F1' : Kp (∀ g, sb = some g → w.heap.size ≤ g) := ⟨fun g hg => (f1 g hg).resolve_left fun h => h⟩
  clear t1 s1 k1 k01 f1 c0 c4 c7
  go_wp2_with fail
  refine ⟨T1.out, ?_⟩
  refine pl_do _ rfl ?_
  go_wp2_with fail
  refine (copy_marks (H3.out.keep K1.out fun _ _ h => h)).mono ?_
  rintro e W2 ⟨kb2, FK2, rfl, m2, k2, f2⟩
  have k02 : Keep w NoB W2 := K1.out.trans k2 (Fresh.refl _ _)
  have t2 : W2.cell? ⟨bb, 0, none⟩ = some (.pointer (some ⟨tb, 0, none⟩)) ∧ W2.cell? ⟨bb, 4, none⟩ = some (.pointer (some ⟨kb, 0, none⟩)) ∧ W2.cell? ⟨bb, 7, none⟩ = some (.int .i64 S.at_) := ⟨k2.cell T1.out.1 fun h => h, k2.cell T1.out.2.1 fun h => h, k2.cell T1.out.2.2 fun h => h⟩
  have S2 : Kp _ := ⟨S1.out.keep k2 fun _ _ h => h⟩
  have M2 : Kp _ := ⟨m2⟩
  have K2 : Kp _ := ⟨k02⟩
  have F2 : Kp (∀ b, FK2 b → w.heap.size ≤ b) := ⟨fun b hb => Nat.le_trans K1.out.size (f2 b hb)⟩
  have g2 := k02.blk H1.out fun h => h
  have z : ∀ i, W2.frozen? ⟨bb, i, none⟩ = false := fun i => free_blk g2 i
  have T2 : Kp _ := ⟨t2⟩
  have G2 : Kp _ := ⟨g2⟩
  have c1 : W2.cell? ⟨bb, 1, none⟩ = some S.sl := by rw [cell_blk g2]; rfl
  have c2 : W2.cell? ⟨bb, 2, none⟩ = some S.sm := by rw [cell_blk g2]; rfl
  have c3 : W2.cell? ⟨bb, 3, none⟩ = some S.sc := by rw [cell_blk g2]; rfl
  have c6 : W2.cell? ⟨bb, 6, none⟩ = some (.slice oa on oc) := by rw [cell_blk g2]; rfl
  clear t2 m2 k2 k02 f2 T1 S1 K1 g2
  go_wp2_with fail
  refine ⟨T2.out, ?_⟩
  iterate 3
    (refine' pl_read _ rfl rfl ?_ ?_
     rotate_left
     · (intro W' hW'; (try dsimp only at hW'); obtain ⟨q0, q1, q2⟩ := hW'; go_simp; try rfl)
     simp only [Act.put, List.setIfInBounds_toArray, List.set_cons_zero, List.set_cons_succ])
  refine pl_do _ rfl ?_
  go_wp2_with fail
  have hg := Go.Em.heap_setCell_same (Go.Em.heap_setCell_same (Go.Em.heap_setCell_same G2.out 1 (.slice sa S.lines.length sc)) 2 (.pointer (some ⟨kb2, 0, none⟩))) 3 (.int .i64 S.at_)
  have hK4 : Keep w (One bb) (((W2.setCell ⟨bb, 1, none⟩ (.slice sa S.lines.length sc)).setCell ⟨bb, 2, none⟩ (.pointer (some ⟨kb2, 0, none⟩))).setCell ⟨bb, 3, none⟩ (.int .i64 S.at_)) :=
    (((K2.out.mono (G := One bb) fun _ h => h.elim).setCell (a := ⟨bb, 1, none⟩) (.inl rfl) _).setCell (a := ⟨bb, 2, none⟩) (.inl rfl) _).setCell (a := ⟨bb, 3, none⟩) (.inl rfl) _
  have hK24 : Keep W2 (One bb) (((W2.setCell ⟨bb, 1, none⟩ (.slice sa S.lines.length sc)).setCell ⟨bb, 2, none⟩ (.pointer (some ⟨kb2, 0, none⟩))).setCell ⟨bb, 3, none⟩ (.int .i64 S.at_)) :=
    (((Keep.refl W2 (One bb)).setCell (a := ⟨bb, 1, none⟩) (.inl rfl) _).setCell (a := ⟨bb, 2, none⟩) (.inl rfl) _).setCell (a := ⟨bb, 3, none⟩) (.inl rfl) _
  generalize (((W2.setCell ⟨bb, 1, none⟩ (.slice sa S.lines.length sc)).setCell ⟨bb, 2, none⟩ (.pointer (some ⟨kb2, 0, none⟩))).setCell ⟨bb, 3, none⟩ (.int .i64 S.at_)) = V at *
  have d0 : V.cell? ⟨bb, 0, none⟩ = some (.pointer (some ⟨tb, 0, none⟩)) := by rw [cell_blk hg]; rfl
  have d4 : V.cell? ⟨bb, 4, none⟩ = some (.pointer (some ⟨kb, 0, none⟩)) := by rw [cell_blk hg]; rfl
  have d6 : V.cell? ⟨bb, 6, none⟩ = some (.slice oa on oc) := by rw [cell_blk hg]; rfl
  have d7 : V.cell? ⟨bb, 7, none⟩ = some (.int .i64 S.at_) := by rw [cell_blk hg]; rfl
  have y6 := free_blk hg 6
  refine ⟨⟨d0, d4, d7⟩, ?_⟩
  have HV : Kp _ := ⟨hg⟩
  have HK4 : Kp _ := ⟨hK4⟩
  have HK24 : Kp _ := ⟨hK24⟩
  clear hg hK4 hK24 c1 c2 c3 c6 z d0 d4 d7 T2
  refine pl_end ?_
  simp only [List.drop_succ_cons, List.drop_nil]
  go_wp2_with fail
  refine bodyPost_end (results_none rfl _ _ _) rfl ?_
  have hg := Go.Em.heap_setCell_same HV.out 6 (.slice none 0 0)
  have hk5 : Keep w (One bb) (V.setCell ⟨bb, 6, none⟩ (.slice none 0 0)) := HK4.out.setCell (a := ⟨bb, 6, none⟩) (.inl rfl) _
  have hk25 : Keep W2 (One bb) (V.setCell ⟨bb, 6, none⟩ (.slice none 0 0)) := HK24.out.setCell (a := ⟨bb, 6, none⟩) (.inl rfl) _
  have hbw : bb < w.heap.size := (Array.getElem?_eq_some_iff.1 H1.out).1
  refine ⟨⟨S.lines, S.at_, S.marks, [], .slice sa S.lines.length sc, .pointer (some ⟨kb2, 0, none⟩), .int .i64 S.at_, S.ub⟩, fun b => b = bb ∨ FT b ∨ FK b, fun x => sb = some x ∨ FK2 x, rfl, ⟨tb, kb, none, 0, 0, none, FT, FK, hg, H2.out.keep hk5 fun b hb e => ?_, H3.out.keep hk5 fun b hb e => ?_, Sl.nil _ _ _, H5.out, H6.out, by simp, H8.out, by simp, fun b => by simp⟩, rfl, rfl, rfl, rfl, rfl,
    ⟨sa, sc, sb, kb2, FK2, rfl, S2.out.keep hk25 fun g hg e => ?_, rfl, M2.out.keep hk25 fun b hb e => ?_, rfl, fun x => Iff.rfl⟩, ?_, ?_, ?_, hk5.mono fun b e => ?_⟩
  · cases e; exact H5.out hb
  · cases e; exact H6.out hb
  · cases e; have := F1'.out _ hg; omega
  · cases e; have := F2.out _ hb; omega
  · intro b hb hF
    have h1 : w.heap.size ≤ b := by
      rcases hb with h | h
      · exact F1'.out _ h
      · exact F2.out _ h
    have := HLT.out b ((H10.out b).2 (by rcases hF with h | h | h; exact .inl h; exact .inr (.inl h); exact .inr (.inr (.inl h))))
    omega
  · intro b hb
    rcases hb with h | h
    · exact F1'.out _ h
    · exact F2.out _ h
  · intro b hb
    exact (H10.out b).2 (by rcases hb with h | h | h; exact .inl h; exact .inr (.inl h); exact .inr (.inr (.inl h)))
  · cases e; exact (H10.out _).2 (.inl rfl)

end Go.Proofs

/- The walk of buf.New. -/
namespace Go.Proofs
open Go.RowKit Go.Em

/-- The lines of a text that is begun with these. -/
def begun (xs : List ByteArray) : List ByteArray := if xs = [] then [⟨#[]⟩] else xs

/-- What stands behind New. -/
def NewPost (w : World) (xs : List ByteArray) (e : Ending) (w' : World) : Prop :=
  ∃ bb S F FS, e = .returned (.tuple #[.pointer (some ⟨bb, 0, none⟩), .int .u16 0]) ∧ BMem w' bb S F ∧ S.lines = begun xs ∧ S.at_ = 1 ∧ S.marks = (fun _ => none) ∧ S.opens = [] ∧
    SvMem w' S (begun xs) (fun _ => none) 1 FS ∧ Dis FS F ∧ (∀ b, F b → w.heap.size ≤ b) ∧ (∀ b, FS b → w.heap.size ≤ b) ∧ Keep w NoB w'

theorem BMem.born {w w2 w3 : World} {tb kb ub : Nat} {FT FK : Blocks} {l : List ByteArray} (hk : Keep w NoB w2) (ht : TText w2 tb l FT) (hf : ∀ b, FT b → w.heap.size ≤ b) (k3 : Keep w2 NoB w3) (m3 : KMem w3 kb (fun _ => none) FK) (f3 : ∀ b, FK b → w2.heap.size ≤ b) :
    BMem (w3.alloc (.cells #[.pointer (some ⟨tb, 0, none⟩), .slice none 0 0, .pointer none, .int .i64 0, .pointer (some ⟨kb, 0, none⟩), .pointer (some ⟨ub, 0, none⟩), .slice none 0 0, .int .i64 1] 46)) w3.heap.size
      ⟨l, 1, fun _ => none, [], .slice none 0 0, .pointer none, .int .i64 0, .pointer (some ⟨ub, 0, none⟩)⟩ (fun b => b = w3.heap.size ∨ FT b ∨ FK b) ∧ ∀ b, (b = w3.heap.size ∨ FT b ∨ FK b) → w.heap.size ≤ b := by
  have hs2 := hk.size
  have hs3 := k3.size
  refine ⟨⟨tb, kb, none, 0, 0, none, FT, FK, heap_alloc_new w3 _, ht.keep (k3.alloc _) fun _ _ h => h, m3.keep ((Keep.refl w3 NoB).alloc _) fun _ _ h => h, Sl.nil _ _ _, fun h => ?_, fun h => ?_, by simp, fun b h1 h2 => ?_, by simp, fun b => by simp⟩, fun b hb => ?_⟩
  · have := ht.lt _ h; omega
  · have := m3.lt _ h; omega
  · have := ht.lt _ h1; have := f3 _ h2; omega
  · rcases hb with h | h | h
    · omega
    · exact hf b h
    · have := f3 b h; omega
theorem NewPost.of {w W w' : World} {xs : List ByteArray} {bb : Nat} {S : BS} {F : Blocks} (hl : S.lines = begun xs) (ha : S.at_ = 1) (hm : S.marks = fun _ => none) (hk : Keep w NoB W) (hF : ∀ b, F b → w.heap.size ≤ b) (_hb : BMem W bb S F) {e : Ending}
    (h : ∃ S' F' FS, e = .returned (.tuple #[]) ∧ BMem w' bb S' F' ∧ S'.lines = S.lines ∧ S'.at_ = S.at_ ∧ S'.marks = S.marks ∧ S'.opens = [] ∧ S'.ub = S.ub ∧
      SvMem w' S' S.lines S.marks S.at_ FS ∧ Dis FS F' ∧ (∀ b, FS b → W.heap.size ≤ b) ∧ (∀ b, F' b → F b) ∧ Keep W F w') : e = .returned (.tuple #[]) ∧ NewPost w xs (.returned (.tuple #[.pointer (some ⟨bb, 0, none⟩), .int .u16 0])) w' := by
  obtain ⟨S', F', FS, h0, h1, h2, h3, h4, h5, h6, h7, h8, h9, h10, h11⟩ := h
  rw [hl, ha, hm] at h7
  refine ⟨h0, bb, S', F', FS, rfl, h1, h2.trans hl, h3.trans ha, h4.trans hm, h5, h7, h8, fun b hb => hF b (h10 b hb), fun b hb => Nat.le_trans hk.size (h9 b hb), ?_⟩
  exact hk.trans h11 fun b hb => .inr (hF b hb)

set_option maxRecDepth 100000 in
set_option maxHeartbeats 2000000 in
theorem new_buf {w : World} {a : Option Addr} {n c : Nat} {xs : List ByteArray} (hr : Rd w 1 a n (vstr xs)) (hn : n ≤ 2000) (hc : n ≤ c) (hcm : c ≤ 9223372036854775807) (hl : isLong xs = false) {st : Int} (s0 : 1 ≤ st) (s1 : st ≤ 200) :
    Calls Tryz.prog 8 #[.slice a n c, .int .i64 st] w (NewPost w xs) := by
  have hxl : xs.length = n := by have := hr.len; rw [vstr_length, Nat.mul_one] at this; exact this
  have HR : Kp _ := ⟨hr⟩
  have HX : Kp _ := ⟨hxl⟩
  clear hr hxl
  have hn2 : ¬ (2000 : Int) < n := by omega
  go_enter Tryz.func8, Tryz.ntmps8
  go_wp2_with ((with_reducible refine (new_undo _ s0 s1).mono ?_)
               rintro e w1 ⟨ub, rfl, k1, -, -⟩
               have K1 : Kp _ := ⟨k1⟩
               clear k1)
  refine (long_calls (HR.out.keep K1.out fun _ _ h => h) (by omega)).mono ?_
  rintro e w' ⟨rfl, rfl⟩
  rw [hl]
  by_cases h0 : n = 0
  · subst h0
    have hxs : xs = [] := List.eq_nil_of_length_eq_zero HX.out
    have he : begun xs = [⟨#[]⟩] := if_pos hxs
    have HE : Kp _ := ⟨he⟩
    clear he hxs
    go_wp2_with fail
    have hx1 : (w1.alloc (.cells #[.string ⟨#[]⟩] 9)).heap[w1.heap.size]? = some (.cells #[.string ⟨#[]⟩] 9 (0, 0)) := heap_alloc_new w1 _
    have hrd : Rd (w1.alloc (.cells #[.string ⟨#[]⟩] 9)) 1 (some ⟨w1.heap.size, 0, none⟩) 1 (vstr [⟨#[]⟩]) := by
      refine ⟨rfl, fun j u hj => ⟨_, rfl, ?_⟩, vstr_one _⟩
      match j with
      | 0 =>
        have : u = .string ⟨#[]⟩ := by simpa [vstr] using hj.symm
        subst this
        show (w1.alloc _).cell? ⟨w1.heap.size, 0, none⟩ = _
        rw [cell_blk hx1]; rfl
      | j + 1 => simp [vstr] at hj
    have HRD : Kp _ := ⟨hrd⟩
    have KA : Kp (Keep w NoB (w1.alloc (.cells #[.string ⟨#[]⟩] 9))) := ⟨K1.out.alloc _⟩
    clear hrd hx1
    refine (new_text HRD.out (by omega) (Nat.le_refl _) (by omega)).mono ?_
    rintro e w2 ⟨tb, FT, rfl, t2, k2, f2⟩
    have T2 : Kp _ := ⟨t2⟩
    have K2 : Kp (Keep w NoB w2) := ⟨KA.out.trans k2 (Fresh.refl _ _)⟩
    have F2 : Kp (∀ b, FT b → w.heap.size ≤ b) := ⟨fun b hb => Nat.le_trans KA.out.size (f2 b hb)⟩
    clear t2 k2 f2
    go_wp2_with ((with_reducible refine (new_marks _).mono ?_)
                 rintro e w3 ⟨kb, FK, rfl, m3, k3, f3⟩
                 have M3 : Kp _ := ⟨m3⟩
                 have K3 : Kp _ := ⟨k3⟩
                 have F3 : Kp _ := ⟨f3⟩
                 clear m3 k3 f3)
    have hborn := BMem.born (ub := ub) K2.out T2.out F2.out K3.out M3.out F3.out
    have HBN : Kp _ := ⟨hborn⟩
    clear hborn
    refine (keep_buf HBN.out.1).mono ?_
    intro e w4 hp
    obtain ⟨he1, hq⟩ := NewPost.of HE.out.symm rfl rfl ((K2.out.trans K3.out (Fresh.refl _ _)).alloc _) HBN.out.2 HBN.out.1 hp
    have HP : Kp _ := ⟨hq⟩
    clear hq hp
    subst he1
    go_wp2_with fail
    go_ret2
    exact HP.out
  · have hn0 : ¬ (n : Int) = 0 := by omega
    have he : begun xs = xs := if_neg fun e => h0 (by rw [← HX.out, e]; rfl)
    have HE : Kp _ := ⟨he⟩
    clear he
    go_wp2_with fail
    refine (new_text (HR.out.keep K1.out fun _ _ h => h) (by omega) hc hcm).mono ?_
    rintro e w2 ⟨tb, FT, rfl, t2, k2, f2⟩
    have T2 : Kp _ := ⟨t2⟩
    have K2 : Kp (Keep w NoB w2) := ⟨K1.out.trans k2 (Fresh.refl _ _)⟩
    have F2 : Kp (∀ b, FT b → w.heap.size ≤ b) := ⟨fun b hb => Nat.le_trans K1.out.size (f2 b hb)⟩
    clear t2 k2 f2
    go_wp2_with ((with_reducible refine (new_marks _).mono ?_)
                 rintro e w3 ⟨kb, FK, rfl, m3, k3, f3⟩
                 have M3 : Kp _ := ⟨m3⟩
                 have K3 : Kp _ := ⟨k3⟩
                 have F3 : Kp _ := ⟨f3⟩
                 clear m3 k3 f3)
    have hborn := BMem.born (ub := ub) K2.out T2.out F2.out K3.out M3.out F3.out
    have HBN : Kp _ := ⟨hborn⟩
    clear hborn
    refine (keep_buf HBN.out.1).mono ?_
    intro e w4 hp
    obtain ⟨he1, hq⟩ := NewPost.of HE.out.symm rfl rfl ((K2.out.trans K3.out (Fresh.refl _ _)).alloc _) HBN.out.2 HBN.out.1 hp
    have HP : Kp _ := ⟨hq⟩
    clear hq hp
    subst he1
    go_wp2_with fail
    go_ret2
    exact HP.out

end Go.Proofs

/- A command on lines, in memory; the walks of work.reg and lines. -/
namespace Go.Proofs
open Go.RowKit Go.Em

/-- A command: what it is about. -/
structure CV where
  range : Value
  name : ByteArray
  bang : Bool
  reg : Int
  count : Int
  dest : Value
  pat : Value
  rep : Value
  flags : Value
  arg : ByteArray

def CV.agg (c : CV) : Value := .agg #[c.range, .string c.name, .bool c.bang, .int .u8 c.reg, .int .i64 c.count, c.dest, c.pat, c.rep, c.flags, .string c.arg]
def WCells (c : CV) (bb rb : Nat) (f t d : Int) : Array Value :=
  #[c.range, .string c.name, .bool c.bang, .int .u8 c.reg, .int .i64 c.count, c.dest, c.pat, c.rep, c.flags, .string c.arg, .pointer (some ⟨bb, 0, none⟩), .pointer (some ⟨rb, 0, none⟩), .int .i64 f, .int .i64 t, .int .i64 d]
/-- A block is a command on lines. -/
def WMem (w : World) (wb : Nat) (c : CV) (bb rb : Nat) (f t d : Int) : Prop := w.heap[wb]? = some (.cells (WCells c bb rb f t d) 72 (0, 0))
theorem WMem.keep {w w' : World} {wb : Nat} {c : CV} {bb rb : Nat} {f t d : Int} {F : Blocks} (h : WMem w wb c bb rb f t d) (hk : Keep w F w') (hn : ¬ F wb) : WMem w' wb c bb rb f t d := hk.blk h hn
theorem WMem.lt {w : World} {wb : Nat} {c : CV} {bb rb : Nat} {f t d : Int} (h : WMem w wb c bb rb f t d) : wb < w.heap.size := (Array.getElem?_eq_some_iff.1 h).1

/-- The register that is meant. -/
def regOf (r : Int) : Int := if r = 0 then 34 else r

set_option maxRecDepth 100000 in
theorem reg_work {w : World} {wb : Nat} {c : CV} {bb rb : Nat} {f t d : Int} (h : WMem w wb c bb rb f t d) :
    Calls Tryz.prog 81 #[.pointer (some ⟨wb, 0, none⟩)] w fun e w' => e = .returned (.int .u8 (regOf c.reg)) ∧ w = w' := by
  have c3 : w.cell? ⟨wb, 3, none⟩ = some (.int .u8 c.reg) := by rw [cell_blk h]; rfl
  clear h
  by_cases hq : c.reg = 0
  · have hb : (c.reg == 0) = true := by simpa using hq
    have HE : Kp (regOf c.reg = 34) := ⟨if_pos hq⟩
    clear hq
    go_enter Tryz.func81, Tryz.ntmps81
    go_wp2_with fail
    go_ret
    exact ⟨by rw [HE.out]; rfl, rfl⟩
  · have hb : (c.reg == 0) = false := by simpa using hq
    have HE : Kp (regOf c.reg = c.reg) := ⟨if_neg hq⟩
    clear hq
    go_enter Tryz.func81, Tryz.ntmps81
    go_wp2_with fail
    go_ret
    exact ⟨by rw [HE.out]; rfl, rfl⟩

set_option maxRecDepth 100000 in
set_option maxHeartbeats 1000000 in
theorem lines_work {w : World} {wb : Nat} {c : CV} {bb rb : Nat} {d : Int} {S : BS} {F : Blocks} {i n : Nat} (h : WMem w wb c bb rb ((i : Int) + 1) ((i : Int) + (n : Int)) d) (hB : BMem w bb S F) (hi : i + n ≤ S.lines.length) (hmost : S.lines.length ≤ 100000) :
    Calls Tryz.prog 29 #[.pointer (some ⟨wb, 0, none⟩)] w fun e w' => ∃ a c b, e = .returned (.slice a n c) ∧
      Sl w' 9 1 a n c (vstr ((S.lines.drop i).take n)) b ∧ Keep w NoB w' ∧ Fresh w NoB (Opt b) := by
  have c10 : w.cell? ⟨wb, 10, none⟩ = some (.pointer (some ⟨bb, 0, none⟩)) := by rw [cell_blk h]; rfl
  have c12 : w.cell? ⟨wb, 12, none⟩ = some (.int .i64 ((i : Int) + 1)) := by rw [cell_blk h]; rfl
  have c13 : w.cell? ⟨wb, 13, none⟩ = some (.int .i64 ((i : Int) + (n : Int))) := by rw [cell_blk h]; rfl
  have HC10 : Kp _ := ⟨c10⟩
  have HC13 : Kp _ := ⟨c13⟩
  have HB : Kp _ := ⟨hB⟩
  have HI : Kp _ := ⟨hi⟩
  clear h hB hi c10 c13
  go_enter Tryz.func29, Tryz.ntmps29
  go_wp2_with fail
  go_loopw [4, 3] (fun j o wr => ∃ (k : Nat) (a2 : Option Addr) (c2 : Nat) (b2 : Option Nat), k ≤ n ∧ j = .int .i64 ((i : Int) + (k : Int) + 1) ∧ o = .slice a2 k c2 ∧
      Kp (Sl wr 9 1 a2 k c2 (vstr ((S.lines.drop i).take k)) b2) ∧ Kp (Keep w NoB wr) ∧ Kp (Fresh w NoB (Opt b2))) (fun j _ _ => i + n + 1 - (intOf j).toNat)
  case atStart => exact ⟨0, none, 0, none, Nat.zero_le _, by go_num, rfl, ⟨by simpa [vstr] using Sl.nil _ _ _⟩, ⟨Keep.refl _ _⟩, ⟨fun b hb => by cases hb⟩⟩
  case round =>
    obtain ⟨k, a2, c2, b2, hk, rfl, rfl, HS, HKr, HFr⟩ := hrel
    have r10 := HKr.out.cell HC10.out fun h => h
    have r13 := HKr.out.cell HC13.out fun h => h
    by_cases hlt : k < n
    · obtain ⟨x, hx⟩ : ∃ x, S.lines[i + k]? = some x := ⟨_, List.getElem?_eq_getElem (by have := HI.out; omega)⟩
      have HX : Kp _ := ⟨hx⟩
      have HBr : Kp _ := ⟨HB.out.keep HKr.out fun _ _ h => h⟩
      have hcl := HS.out.le
      have hcm := HS.out.max
      have hib : i < 1048576 := by have := HI.out; omega
      have hkb : k < 1048576 := by have := HI.out; omega
      have hik : (i : Int) + (k : Int) + 1 = ((i + k : Nat) : Int) + 1 := by omega
      have HIK : Kp _ := ⟨hik⟩
      clear hx hik hmost
      go_wp2_with fail
      rw [HIK.out]
      refine (line_buf HBr.out HX.out).mono ?_
      rintro e w' ⟨rfl, q, rfl⟩
      have HK2 : Kp (Keep w NoB ((wr.drewN q).alloc (.cells #[.string x] 9))) := ⟨(HKr.out.drewN q).alloc _⟩
      have HS2 : Kp _ := ⟨HS.out.keep (((Keep.refl wr NoB).drewN q).alloc (.cells #[.string x] 9)) fun _ _ h => h⟩
      have hW : ((wr.drewN q).alloc (.cells #[.string x] 9)).heap[wr.heap.size]? = some (.cells #[.string x] 9 (0, 0)) := heap_alloc_new (wr.drewN q) _
      have HRD : Kp (Rd ((wr.drewN q).alloc (.cells #[.string x] 9)) 1 (some ⟨wr.heap.size, 0, none⟩) 1 [.string x]) := ⟨rfl, fun j u hj => ⟨⟨wr.heap.size, 0, none⟩, rfl, by rw [Addr.add_lit, Nat.zero_add, cell_blk hW]; simpa using hj⟩, fun u hu => by simp at hu; subst hu; rfl⟩
      clear hW
      go_wp2_with (at_builtin
                   refine wpList_append_rd rfl _ _ 22 rfl 9 _ 1 16 Tryz.underlying22 info_str rfl (by decide) HS2.out rfl HRD.out rfl (by omega) (by omega) ?_
                   intro a3 c3 b3 w3 s3 k3 f3
                   have S3 : Kp _ := ⟨s3⟩
                   have K3 : Kp _ := ⟨k3⟩
                   have F3 : Kp _ := ⟨f3⟩
                   clear s3 k3 f3)
      have hv : vstr ((S.lines.drop i).take k) ++ [.string x] = vstr ((S.lines.drop i).take (k + 1)) := by rw [← part_get HX.out]; simp [vstr]
      have s3 := S3.out
      rw [hv] at s3
      have S4 : Kp _ := ⟨s3⟩
      have K4 : Kp (Keep w NoB w3) := ⟨HK2.out.trans (K3.out.mono (G := Opt b2) fun _ h => h) HFr.out⟩
      have F4 : Kp (Fresh w NoB (Opt b3)) := ⟨HFr.out.trans (Nat.le_trans HK2.out.size (Nat.le_refl _)) F3.out⟩
      clear s3 hv
      go_roundw
      case rel => exact ⟨k + 1, a3, c3, b3, by omega, by go_num, rfl, S4, K4, F4⟩
      case measure => simp [intOf]; omega
    · have hke : k = n := by omega
      subst hke
      go_wp2
      go_ret
      exact ⟨_, _, _, rfl, HS.out, HKr.out, HFr.out⟩

end Go.Proofs

/- The walk of regs.lay, of a register whose name is small. -/
namespace Go.Proofs
open Go.RowKit Go.Em

def fput (f : Int → Option RegD) (k : Int) (x : RegD) : Int → Option RegD := fun j => if j = k then some x else f j

theorem weigh_len (l : List ByteArray) : l.length ≤ weigh l := weigh_ge l

set_option maxRecDepth 100000 in
set_option maxHeartbeats 2000000 in
theorem lay_ok {w : World} {rb : Nat} {f : Int → Option RegD} {G : Blocks} (h : RMem w rb f G) {name : Int} (h0 : 0 ≤ name) (h1 : name < 256) (hk : knownReg name = true) (h95 : ¬ name = 95) (hsm : rng 65 90 name = false)
    {a : Option Addr} {n c : Nat} {xs : List ByteArray} {b : Option Nat} {wh : Bool} (hs : Sl w 9 1 a n c (vstr xs) b) (hbG : ∀ g, b = some g → ¬ G g) (hx : xs ≠ []) (hw : weigh xs ≤ 20000) :
    Calls Tryz.prog 109 #[.pointer (some ⟨rb, 0, none⟩), .int .u8 name, .agg #[.slice a n c, .bool wh]] w fun e w' => e = .returned (.int .u16 0) ∧ RMem w' rb (fput (fput f name (xs, wh)) 34 (xs, wh)) (Or2 G (Opt b)) ∧ Keep w G w' ∧ w'.cell? ⟨rb, 0, none⟩ = w.cell? ⟨rb, 0, none⟩ := by
  have HR : Kp _ := ⟨h⟩
  obtain ⟨mb, g, H, hne, hb, hm, hc, hrH, hmH, hG, hlt⟩ := h
  have hold : ∃ a0 n0 c0 b0 is, ∀ W, MapIs W mb .u8 g → (Instr.lookup 66 (.map (some mb)) (.int .u8 name) true).run Tryz.prog W = .ok (.tuple #[.agg #[.slice a0 n0 c0, .bool b0], .bool is]) W := by
    rcases hc name with ⟨_, e⟩ | ⟨x, v, _, e, a0, n0, c0, b0, rfl, _⟩
    · refine ⟨none, 0, 0, false, false, fun W hW => ?_⟩
      have := hW.look_ok Tryz.underlying66 Tryz.underlying5 (zero_reg W) name
      rw [e] at this; exact this
    · refine ⟨a0, n0, c0, x.2, true, fun W hW => ?_⟩
      have := hW.look_ok Tryz.underlying66 Tryz.underlying5 (zero_reg W) name
      rw [e] at this; exact this
  obtain ⟨a0, n0, c0, b0, is, hold⟩ := hold
  have hrb : rb < w.heap.size := hlt rb ((hG rb).2 (.inl rfl))
  have hmb : mb < w.heap.size := hlt mb ((hG mb).2 (.inr (.inl rfl)))
  have e0 : w.cell? ⟨rb, 0, none⟩ = some (.map (some mb)) := by rw [cell_blk hb]; rfl
  have hkW : ∀ o1, Keep w NoB (w.alloc o1) := fun o1 => (Keep.refl w NoB).alloc _
  have hlk := hold (w.alloc (.cells #[.slice a n c, .bool wh] 54)) (hm.keep (hkW _) fun h => h)
  have HM : Kp _ := ⟨hm⟩
  have HC : Kp _ := ⟨hc⟩
  have HG : Kp _ := ⟨hG⟩
  have HLT : Kp _ := ⟨hlt⟩
  have HS : Kp _ := ⟨hs⟩
  have HBG : Kp _ := ⟨hbG⟩
  have HHX : Kp _ := ⟨hx⟩
  have HW : Kp _ := ⟨hw⟩
  have HB : Kp _ := ⟨hb⟩
  have HN : Kp _ := ⟨hne⟩
  have HRH : Kp _ := ⟨hrH⟩
  have HMH : Kp _ := ⟨hmH⟩
  have hw1 : (weigh xs : Int) ≤ 20000 := by omega
  clear hm hc hG hlt hs hbG hx hb hold hkW hne hrH hmH
  go_enter Tryz.func109, Tryz.ntmps109
  go_wp2_with (first
    | ((with_reducible refine (Small_calls _ _ h0 h1).mono ?_)
       rintro e w' ⟨rfl, rfl⟩
       simp only [hsm, Bool.false_eq_true, if_false])
    | ((with_reducible refine (Known_calls _ _).mono ?_)
       rintro e w' ⟨rfl, rfl⟩
       rw [hk]))
  have HRD : Kp (Rd ((w.alloc (.cells #[.slice a n c, .bool wh] 54)).alloc (.cells #[.slice a0 n0 c0, .bool b0] 54)) 1 a n (vstr xs)) :=
    ⟨(Rd.of_sl HS.out (vstr_one xs)).keep (((Keep.refl w NoB).alloc _).alloc _) fun _ _ h => h⟩
  have hnl : n < 9223372036854775807 := by have := HS.out.le; have := HS.out.max; have := weigh_ge xs; have := HS.out.len; rw [vstr_length] at this; omega
  refine (size_reg HRD.out hnl (by omega)).mono ?_
  rintro e w' ⟨rfl, rfl⟩
  have hsz3 : (((w.alloc (.cells #[.slice a n c, .bool wh] 54)).alloc (.cells #[.slice a0 n0 c0, .bool b0] 54)).alloc (.cells #[.slice a n c, .bool wh] 54)).heap.size = w.heap.size + 3 := by simp
  go_wp2_with fail
  have hK : Keep w NoB (((w.alloc (.cells #[.slice a n c, .bool wh] 54)).alloc (.cells #[.slice a0 n0 c0, .bool b0] 54)).alloc (.cells #[.slice a n c, .bool wh] 54)) := (((Keep.refl w NoB).alloc _).alloc _).alloc _
  have hx1 : (w.alloc (.cells #[.slice a n c, .bool wh] 54)).heap[w.heap.size]? = some (.cells #[.slice a n c, .bool wh] 54 (0, 0)) := heap_alloc_new w _
  have hx3 : (((w.alloc (.cells #[.slice a n c, .bool wh] 54)).alloc (.cells #[.slice a0 n0 c0, .bool b0] 54)).alloc (.cells #[.slice a n c, .bool wh] 54)).heap[w.heap.size]? = some (.cells #[.slice a n c, .bool wh] 54 (0, 0)) :=
    (((Keep.refl _ NoB).alloc _).alloc _).blk hx1 fun h => h
  generalize (((w.alloc (.cells #[.slice a n c, .bool wh] 54)).alloc (.cells #[.slice a0 n0 c0, .bool b0] 54)).alloc (.cells #[.slice a n c, .bool wh] 54)) = W at *
  have hmW : MapIs W.drew mb .u8 g := HM.out.keep hK.drew fun h => h
  obtain ⟨o1, o2, m1, y1, en1, st1, mp1⟩ := hmW.entry2 Tryz.underlying66 Tryz.underlying5 (zero_reg W.drew) name (.agg #[.slice a n c, .bool wh])
  have hltW : mb < W.drew.heap.size := hmW.lt
  have hx0 : (setB W.drew mb o1).heap[mb]? = some o1 := setB_at hltW
  have st1' := st1 _ hx0
  have hx2 : (setB (setB W.drew mb o1) mb o2).heap[mb]? = some o2 := setB_at (by rw [setB_size]; exact hltW)
  have hm2 := mp1 _ hx2
  obtain ⟨o3, o4, m2, y2, en2, st2, mp2⟩ := hm2.entry2 Tryz.underlying66 Tryz.underlying5 (zero_reg _) 34 (.agg #[.slice a n c, .bool wh])
  have hx4 : (setB (setB (setB W.drew mb o1) mb o2) mb o3).heap[mb]? = some o3 := setB_at (by rw [setB_size, setB_size]; exact hltW)
  have st2' := st2 _ hx4
  have hx5 : (setB (setB (setB (setB W.drew mb o1) mb o2) mb o3) mb o4).heap[mb]? = some o4 := setB_at (by rw [setB_size, setB_size, setB_size]; exact hltW)
  have hm4 := mp2 _ hx5
  have hne1 : w.heap.size ≠ mb := by omega
  have c0W : W.cell? ⟨rb, 0, none⟩ = some (.map (some mb)) := hK.cell e0 fun h => h
  have c1W : W.cell? ⟨w.heap.size, 0, none⟩ = some (.slice a n c) := by rw [cell_blk hx3]; rfl
  have c2W : W.cell? ⟨w.heap.size, 1, none⟩ = some (.bool wh) := by rw [cell_blk hx3]; rfl
  clear hx1 hx0 hx2 hx4 hx5 hmW hm2 st1 st2 mp1 mp2
  have HK : Kp _ := ⟨hK⟩
  have HM4 : Kp _ := ⟨hm4⟩
  have HKK : Kp (Keep w (One mb) (setB (setB (setB (setB W.drew mb o1) mb o2) mb o3) mb o4)) := ⟨((((hK.mono (G := One mb) fun _ h => h.elim).drew.setB (.inl rfl)).setB (.inl rfl)).setB (.inl rfl)).setB (.inl rfl)⟩
  clear hK hm4
  refine wp_region_plan (fun W' => W'.cell? ⟨rb, 0, none⟩ = some (.map (some mb)) ∧ W'.cell? ⟨w.heap.size, 0, none⟩ = some (.slice a n c) ∧ W'.cell? ⟨w.heap.size, 1, none⟩ = some (.bool wh))
    [(true, 0), (true, 1), (true, 2), (true, 3), (true, 4), (true, 5), (true, 6), (true, 7), (true, 8), (true, 9), (true, 10), (false, 11), (true, 12), (false, 13), (false, 14), (true, 15)] 16 (by kernel_rfl) (by kernel_rfl) (fun _ _ d _ _ h => by cases d <;> exact h) ⟨c0W, c1W, c2W⟩ ?_
  iterate 11
    (refine' plan_read _ rfl rfl ?_ ?_
     rotate_left
     · (intro W' hW'; (try dsimp only at hW'); obtain ⟨q0, q1, q2⟩ := hW'; go_simp; try rfl)
     simp only [Act.put, List.setIfInBounds_toArray, List.set_cons_zero, List.set_cons_succ])
  refine plan_do _ rfl ?_
  go_wp2_with fail
  have tt : ∀ (o : Obj) (W' : World), (W'.cell? ⟨rb, 0, none⟩ = some (.map (some mb)) ∧ W'.cell? ⟨w.heap.size, 0, none⟩ = some (.slice a n c) ∧ W'.cell? ⟨w.heap.size, 1, none⟩ = some (.bool wh)) →
      ((setB W' mb o).cell? ⟨rb, 0, none⟩ = some (.map (some mb)) ∧ (setB W' mb o).cell? ⟨w.heap.size, 0, none⟩ = some (.slice a n c) ∧ (setB W' mb o).cell? ⟨w.heap.size, 1, none⟩ = some (.bool wh)) := fun o W' h =>
    ⟨(setB_cell HN.out).trans h.1, (setB_cell hne1).trans h.2.1, (setB_cell hne1).trans h.2.2⟩
  have t1 := tt o1 W.drew ⟨c0W, c1W, c2W⟩
  have t2 := tt o2 _ t1
  have t3 := tt o3 _ t2
  clear tt c0W c1W c2W
  refine ⟨t1, ?_⟩
  refine' plan_read _ rfl rfl ?_ ?_
  rotate_left
  · intro W' hW'; go_simp; try rfl
  simp only [Act.put, List.setIfInBounds_toArray, List.set_cons_zero, List.set_cons_succ]
  refine plan_do _ rfl ?_
  go_wp2_with fail
  refine ⟨t2, ?_⟩
  refine plan_do _ rfl ?_
  go_wp2_with fail
  refine ⟨t3, ?_⟩
  refine' plan_read _ rfl rfl ?_ ?_
  rotate_left
  · intro W' hW'; go_simp; try rfl
  simp only [Act.put, List.setIfInBounds_toArray, List.set_cons_zero, List.set_cons_succ]
  refine plan_end ?_
  go_wp2_with fail
  go_ret
  refine ⟨by first | rfl | simp, ?_, ?_, World.cell?_of_block (w := w) (HKK.out.keep _ hrb fun e => HN.out e)⟩
  · refine ⟨mb, _, Or2 H (Opt b), HN.out, ?_, HM4.out, fun k => ?_, ?_, ?_, ?_, ?_⟩
    · exact (HKK.out.blk HB.out fun e => HN.out e)
    · have hval : RegV w (Or2 H (Opt b)) (.agg #[.slice a n c, .bool wh]) (xs, wh) := ⟨a, n, c, b, rfl, HS.out, fun g hg => .inr hg, HW.out, HHX.out⟩
      have hdis : Dis (Or2 H (Opt b)) (One mb) := fun x hx e => by
        cases e
        rcases hx with hx | hx
        · exact HMH.out hx
        · exact HBG.out _ hx ((HG.out _).2 (.inr (.inl rfl)))
      unfold fput upd
      by_cases hk34 : k = 34
      · rw [if_pos hk34, if_pos hk34]
        exact .inr ⟨_, _, rfl, rfl, hval.keep HKK.out hdis⟩
      rw [if_neg hk34, if_neg hk34]
      by_cases hkn : k = name
      · rw [if_pos hkn, if_pos hkn]
        exact .inr ⟨_, _, rfl, rfl, hval.keep HKK.out hdis⟩
      rw [if_neg hkn, if_neg hkn]
      rcases HC.out k with h | ⟨x, v, e1, e2, hv⟩
      · exact .inl h
      · exact .inr ⟨x, v, e1, e2, (hv.mono fun _ h => .inl h).keep HKK.out hdis⟩
    · rintro (h | h)
      · exact HRH.out h
      · exact HBG.out _ h ((HG.out _).2 (.inl rfl))
    · rintro (h | h)
      · exact HMH.out h
      · exact HBG.out _ h ((HG.out _).2 (.inr (.inl rfl)))
    · intro x
      unfold Or2
      rw [HG.out x]
      exact ⟨fun h => by rcases h with (h | h | h) | h; exact .inl h; exact .inr (.inl h); exact .inr (.inr (.inl h)); exact .inr (.inr (.inr h)), fun h => by rcases h with h | h | h | h; exact .inl (.inl h); exact .inl (.inr (.inl h)); exact .inl (.inr (.inr h)); exact .inr h⟩
    · intro x hx
      have hsz := HKK.out.size
      rcases hx with hx | hx
      · have := HLT.out x hx; omega
      · have := HS.out.lt hx; omega
  · exact HKK.out.mono fun x hx => by cases hx; exact (HG.out _).2 (.inr (.inl rfl))

end Go.Proofs
