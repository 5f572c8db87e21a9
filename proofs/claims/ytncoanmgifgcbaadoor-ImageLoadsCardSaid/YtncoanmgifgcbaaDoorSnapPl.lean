/- What image.Snap takes of an image that may be: plainly. -/
import Derived.Test.YtncoanmgifgcbaaDoorSnapA
import Derived.Test.YtncoanmgifgcbaaDoorImgQ
namespace Go.Proofs.YtncoanmgifgcbaaDoor
set_option linter.unusedVariables false
set_option linter.unusedSimpArgs false
open Go.RowKit

theorem okB_mk {o : O} (h1 : namedOk o.cls = true) (h2 : o.W.length ≤ 1000) (h3 : o.B.length ≤ 1000) (h4 : o.W.all refOk = true) (h5 : o.kind = 1 ∧ o.B = [] ∨ o.kind = 2 ∧ o.W = []) : okB o = true := by
  unfold okB hdB
  simp only [Bool.and_eq_true, Bool.or_eq_true, decide_eq_true_eq, beq_iff_eq, Bool.not_eq_true', Bool.and_eq_false_iff, decide_eq_false_iff_not, beq_eq_false_iff_ne]
  rcases h5 with ⟨h5, h6⟩ | ⟨h5, h6⟩
  · exact ⟨⟨⟨⟨⟨⟨h1, .inl h5⟩, h2⟩, h3⟩, .inr (by rw [h6]; simp)⟩, .inl (by omega)⟩, h4⟩
  · exact ⟨⟨⟨⟨⟨⟨h1, .inr h5⟩, h2⟩, h3⟩, .inl (by omega)⟩, .inr (by rw [h6]; simp)⟩, h4⟩
/-- may it be?, plainly -/
def Good (L : List O) (f : Int) : Prop := 4 ≤ L.length ∧ L.length ≤ 2000 ∧ (ob L 3).kind = 1 ∧ 12 ≤ (ob L 3).W.length ∧ namedOk f = true ∧ namedV f ≤ L.length ∧ (∀ o ∈ L, okB o = true) ∧ ∀ i, i < L.length → namedB (ob L i) L.length = true ∧ codedB L (2 * ((i : Int) + 1)) = true
theorem imgOk_iff {L : List O} {f : Int} : imgOk L f = true ↔ Good L f := by
  unfold imgOk Good
  simp only [Bool.and_eq_true, decide_eq_true_eq, beq_iff_eq, List.all_eq_true, List.mem_range]
theorem namedV_two {k : Int} (h : 1 ≤ k ∧ k ≤ 1073741823) : namedV (2 * k) = k ∧ namedOk (2 * k) = true := by
  constructor
  · unfold namedV
    rw [if_pos (by omega)]
    omega
  · unfold namedOk
    exact decide_eq_true (by omega)
theorem ob_at {L : List O} {i : Nat} (h : i < L.length) : ob L i ∈ L := by
  unfold ob
  rw [List.getElem?_eq_getElem h]
  exact List.getElem_mem h
theorem live_in {L : List O} (hL : ∀ o ∈ L, okB o = true) {k : Int} (h : 1 ≤ k ∧ k ≤ L.length) : live L k := by
  refine ⟨h.1, ?_⟩
  obtain ⟨-, -, -, -, h5⟩ := okB_cases (hL _ (ob_at (show (k - 1).toNat < L.length by omega)))
  omega
theorem frI_pos {all : List Int} (hd : all.Nodup) {i : Nat} {id : Int} (h : all[i]? = some id) : frI all (2 * id) = some (2 * ((i : Int) + 1)) := by
  obtain ⟨hi, he⟩ := List.getElem?_eq_some_iff.1 h
  unfold frI
  rw [List.findIdx?_eq_some_iff_getElem.2 ⟨hi, by simp [he], fun j hj => by
    have h1 := List.pairwise_iff_getElem.1 hd j i (by omega) hi hj
    rw [he] at h1
    simp
    omega⟩]
  rfl
theorem ren_num {all : List Int} {z : Int} (h : numOk z = true) : renI all z = z := by unfold renI; rw [if_pos h]
theorem num_odd {z : Int} (h : namedOk z = true) : numOk z = false := by
  unfold namedOk at h
  have := of_decide_eq_true h
  unfold numOk
  exact decide_eq_false (by omega)
theorem named_even {z : Int} (h : namedOk z = true) : z = 2 * (z / 2) := by
  unfold namedOk at h
  have := of_decide_eq_true h
  omega
theorem ren_named {all : List Int} (hd : all.Nodup) {z : Int} {i : Nat} (h : namedOk z = true) (hi : all[i]? = some (z / 2)) : renI all z = 2 * ((i : Int) + 1) := by
  unfold renI
  rw [if_neg (by rw [num_odd h]; decide), named_even h]
  rw [frI_pos hd hi]
  rfl
/-- where a number stands -/
theorem at_mem {all : List Int} {k : Int} (h : k ∈ all) : ∃ i : Nat, all[i]? = some k ∧ i < all.length := by
  obtain ⟨i, hi, he⟩ := List.mem_iff_getElem.1 h
  exact ⟨i, by rw [List.getElem?_eq_getElem hi, he], hi⟩

section
variable {L : List O} {f : Int} {R : List Int} (hg : Good L f)
include hg
theorem Good.live' {k : Int} (h : 1 ≤ k ∧ k ≤ L.length) : live L k := live_in hg.2.2.2.2.2.2.1 h
theorem Good.obV {k : Int} (h : 1 ≤ k ∧ k ≤ L.length) : objV L (2 * k) = ob L (k - 1).toNat ∧ objE L (2 * k) = 0 := by
  have h2 := hg.2.1
  have e := namedV_two (k := k) (by omega)
  have h1 := objE_live (L := L) (o := 2 * k) (by rw [e.1]; exact hg.live' h)
  rw [e.1] at h1
  exact ⟨h1.2, h1.1⟩
theorem Good.okAt {k : Int} (h : 1 ≤ k ∧ k ≤ L.length) : okB (ob L (k - 1).toNat) = true := hg.2.2.2.2.2.2.1 _ (ob_at (by omega))
/-- what is taken names what is taken -/
theorem near_closedI {id z : Int} (hid : id ∈ nearI L R) (hz : z ∈ (ob L (id - 1).toNat).cls :: (ob L (id - 1).toNat).W) (hn : namedOk z = true) : z / 2 ∈ nearI L R := by
  have hb := nearI_bd hid
  obtain ⟨e1, e2, e3⟩ := namedV_of hn
  have hr : z / 2 ∈ refsO (ob L (id - 1).toNat) := List.mem_filterMap.2 ⟨z, hz, by unfold idOf; rw [if_pos hn]⟩
  have h1 := (hg.2.2.2.2.2.2.2 (id - 1).toNat (by omega)).1
  unfold namedB at h1
  have h2 := of_decide_eq_true (List.all_eq_true.1 h1 _ hr)
  exact mem_nearI.2 (.step (mem_nearI.1 hid) hr (hg.live' ⟨e2, h2⟩))
theorem word_ref {id z : Int} (hid : id ∈ nearI L R) (hz : z ∈ (ob L (id - 1).toNat).W) : numOk z = true ∨ namedOk z = true := by
  obtain ⟨-, -, -, h4, -⟩ := okB_cases (hg.okAt (nearI_bd hid))
  have := List.all_eq_true.1 h4 z hz
  unfold refOk at this
  simpa using this
/-- the new word -/
theorem ren_word {id z : Int} (hid : id ∈ nearI L R) (hz : z ∈ (ob L (id - 1).toNat).cls :: (ob L (id - 1).toNat).W) (hn : namedOk z = true) : ∃ j : Nat, (nearI L R)[j]? = some (z / 2) ∧ j < (nearI L R).length ∧ renI (nearI L R) z = 2 * ((j : Int) + 1) := by
  obtain ⟨j, hj, hl⟩ := at_mem (near_closedI hg hid hz hn)
  exact ⟨j, hj, hl, ren_named ((nearI_rising L R).imp fun {a b} h => by omega) hn hj⟩
omit hg in
theorem near_len (L : List O) (R : List Int) : (nearI L R).length ≤ L.length := by
  unfold nearI
  rw [List.length_map]
  exact Nat.le_trans (List.length_filter_le _ _) (by simp)
omit hg in
theorem snapL_ob (all : List Int) {i : Nat} {id : Int} (h : all[i]? = some id) : ob (snapL L all) i = renO all (objV L (2 * id)) := by
  unfold ob snapL
  rw [List.getElem?_map, h]
  rfl
theorem snap_ok : ∀ o ∈ snapL L (nearI L R), okB o = true := by
  intro o ho
  unfold snapL at ho
  obtain ⟨id, hid, rfl⟩ := List.mem_map.1 ho
  have hb := nearI_bd hid
  rw [(hg.obV hb).1]
  obtain ⟨h1, h2, h3, h4, h5⟩ := okB_cases (hg.okAt hb)
  have hl := near_len L R
  have hnl := hg.2.1
  have key : ∀ z ∈ (ob L (id - 1).toNat).cls :: (ob L (id - 1).toNat).W, namedOk z = true → namedOk (renI (nearI L R) z) = true := fun z hz hn => by
    obtain ⟨j, -, hj, e⟩ := ren_word hg hid hz hn
    rw [e]
    exact (namedV_two (k := (j : Int) + 1) (by omega)).2
  refine okB_mk (key _ List.mem_cons_self h1) (by simpa [renO] using h2) h3 ?_ ?_
  · rw [List.all_eq_true]
    intro y hy
    obtain ⟨z, hz, rfl⟩ := List.mem_map.1 hy
    rcases word_ref hg hid hz with hn | hn
    · rw [ren_num hn]
      unfold refOk
      rw [hn]
      rfl
    · unfold refOk
      rw [key z (List.mem_cons_of_mem _ hz) hn, Bool.or_true]
  · rcases h5 with ⟨a, b⟩ | ⟨a, b⟩
    · exact .inl ⟨a, b⟩
    · exact .inr ⟨a, by show List.map _ (ob L (id - 1).toNat).W = []; rw [b]; rfl⟩
theorem snap_named {i : Nat} (hi : i < (nearI L R).length) : namedB (ob (snapL L (nearI L R)) i) (nearI L R).length = true := by
  have hid : (nearI L R)[i] ∈ nearI L R := List.getElem_mem hi
  rw [snapL_ob _ (List.getElem?_eq_getElem hi), (hg.obV (nearI_bd hid)).1]
  unfold namedB
  rw [List.all_eq_true]
  intro y hy
  unfold refsO at hy
  obtain ⟨z', hz', he⟩ := List.mem_filterMap.1 hy
  have hz2 : z' ∈ ((ob L ((nearI L R)[i] - 1).toNat).cls :: (ob L ((nearI L R)[i] - 1).toNat).W).map (renI (nearI L R)) := hz'
  obtain ⟨z, hz, rfl⟩ := List.mem_map.1 hz2
  obtain ⟨c1, -, -, -, -⟩ := okB_cases (hg.okAt (nearI_bd hid))
  have hw : numOk z = true ∨ namedOk z = true := by
    rcases List.mem_cons.1 hz with rfl | h
    · exact .inr c1
    · exact word_ref hg hid h
  have hl := near_len L R
  have hnl := hg.2.1
  rcases hw with hn | hn
  · rw [ren_num hn] at he
    unfold idOf at he
    split at he
    · rename_i h1
      rw [num_odd h1] at hn
      cases hn
    · cases he
  · obtain ⟨j, -, hj, e⟩ := ren_word hg hid hz hn
    rw [e, idOf, if_pos (namedV_two (k := (j : Int) + 1) (by omega)).2] at he
    cases he
    unfold upTo
    exact decide_eq_true (by omega)
omit hg in
theorem near_nodup (L : List O) (R : List Int) : (nearI L R).Nodup := (nearI_rising L R).imp fun {a b} h => by omega
theorem snap_obV {i : Nat} {id : Int} (h : (nearI L R)[i]? = some id) : objE (snapL L (nearI L R)) (2 * ((i : Int) + 1)) = 0 ∧ objV (snapL L (nearI L R)) (2 * ((i : Int) + 1)) = renO (nearI L R) (ob L (id - 1).toNat) := by
  obtain ⟨hi, he⟩ := List.getElem?_eq_some_iff.1 h
  have hl := near_len L R
  have hnl := hg.2.1
  have hb : 1 ≤ id ∧ id ≤ L.length := nearI_bd (by rw [← he]; exact List.getElem_mem hi)
  have hsl : (snapL L (nearI L R)).length = (nearI L R).length := by simp [snapL]
  have e := namedV_two (k := (i : Int) + 1) (by omega)
  have h1 := objE_live (L := snapL L (nearI L R)) (o := 2 * ((i : Int) + 1)) (by rw [e.1]; exact live_in (snap_ok hg) (by omega))
  rw [e.1] at h1
  refine ⟨h1.1, h1.2.trans ?_⟩
  rw [show ((i : Int) + 1 - 1).toNat = i by omega, snapL_ob _ h, (hg.obV hb).1]
omit hg in
theorem objE_num (L : List O) {z : Int} (h : numOk z = true) : objE L z = 4 := by
  refine objE_gone ?_
  have : namedV z = 0 := by
    unfold namedV
    unfold numOk at h
    have := of_decide_eq_true h
    rw [if_neg (by omega)]
  rw [this]
  intro h
  have := h.1
  omega
theorem snap_coded {i : Nat} {id : Int} (h : (nearI L R)[i]? = some id) : codedB (snapL L (nearI L R)) (2 * ((i : Int) + 1)) = codedB L (2 * id) := by
  obtain ⟨hi, he⟩ := List.getElem?_eq_some_iff.1 h
  have hid : id ∈ nearI L R := by rw [← he]; exact List.getElem_mem hi
  have hb := nearI_bd hid
  obtain ⟨e1, e2⟩ := snap_obV hg h
  obtain ⟨e3, e4⟩ := hg.obV hb
  have hw : ∀ z ∈ (ob L (id - 1).toNat).W, numOk z = true ∨ namedOk z = true := fun z hz => word_ref hg hid hz
  have hrw : ∀ z ∈ (ob L (id - 1).toNat).W, namedOk z = true → ∃ j : Nat, (nearI L R)[j]? = some (z / 2) ∧ j < (nearI L R).length ∧ renI (nearI L R) z = 2 * ((j : Int) + 1) := fun z hz hn => ren_word hg hid (List.mem_cons_of_mem _ hz) hn
  have hl := near_len L R
  have hnl := hg.2.1
  unfold codedB readM
  rw [e1, e2, e3, e4]
  generalize ob L (id - 1).toNat = x at *
  have k1 : (renO (nearI L R) x).kind = x.kind := rfl
  have k2 : (renO (nearI L R) x).W.length = x.W.length := by simp [renO]
  have k3 : ∀ j : Nat, (renO (nearI L R) x).W[j]? = x.W[j]?.map (renI (nearI L R)) := fun j => by simp [renO]
  rw [k1, k2, k3, k3]
  by_cases hk : x.kind = 1
  · by_cases h2 : x.W.length < 2
    · simp [hk, h2]
    · obtain ⟨a, ha⟩ : ∃ y, x.W[0]? = some y := ⟨_, List.getElem?_eq_getElem (by omega)⟩
      obtain ⟨c, hc⟩ : ∃ y, x.W[1]? = some y := ⟨_, List.getElem?_eq_getElem (by omega)⟩
      rw [ha, hc]
      simp only [Option.map_some, Option.getD_some]
      have hh : headOk (renI (nearI L R) a) = headOk a := by
        rcases hw a (List.mem_of_getElem? ha) with hn | hn
        · rw [ren_num hn]
        · obtain ⟨j, -, hj, e⟩ := hrw a (List.mem_of_getElem? ha) hn
          unfold headOk
          rw [num_odd hn, num_odd (show namedOk (renI (nearI L R) a) = true by rw [e]; exact (namedV_two (by omega)).2)]
          rfl
      rw [hh]
      cases ht : headOk a
      · simp [hk, h2]
      · have hc2 : objE (snapL L (nearI L R)) (renI (nearI L R) c) = objE L c ∧ (objE L c = 0 → (objV (snapL L (nearI L R)) (renI (nearI L R) c)).kind = (objV L c).kind ∧ (objV (snapL L (nearI L R)) (renI (nearI L R) c)).B = (objV L c).B) := by
          rcases hw c (List.mem_of_getElem? hc) with hn | hn
          · rw [ren_num hn, objE_num L hn, objE_num _ hn]
            exact ⟨rfl, fun h => by omega⟩
          · obtain ⟨j, hj, hjl, e⟩ := hrw c (List.mem_of_getElem? hc) hn
            obtain ⟨g1, g2⟩ := snap_obV hg hj
            have hcb : 1 ≤ c / 2 ∧ c / 2 ≤ L.length := nearI_bd (List.mem_of_getElem? hj)
            obtain ⟨g3, g4⟩ := hg.obV hcb
            rw [← named_even hn] at g3 g4
            rw [e, g1, g2, g3, g4]
            exact ⟨rfl, fun _ => ⟨rfl, rfl⟩⟩
        simp only [hk, h2, ne_eq, not_true_eq_false, if_false, Bool.true_eq_false, hc2.1]
        by_cases ho : objE L c = 0
        · obtain ⟨o1, o2⟩ := hc2.2 ho
          rw [o1, o2]
        · simp [ho]
  · simp [hk]
/-- the first four are taken first -/
theorem near_four (h1 : ∀ k : Int, 1 ≤ k → k ≤ 4 → k ∈ R) : (nearI L R).take 4 = [1, 2, 3, 4] := by
  have hn := hg.1
  have hr : ∀ k : Int, 1 ≤ k → k ≤ 4 → Reach L R k := fun k a b => .root (h1 k a b) (hg.live' ⟨a, by omega⟩)
  unfold nearI
  obtain ⟨n, hn⟩ : ∃ n, L.length = 4 + n := ⟨L.length - 4, by omega⟩
  rw [hn, List.range_add, List.filter_append, List.map_append]
  have e : (List.range 4).filter (fun i : Nat => @decide (Reach L R ((i : Int) + 1)) (Classical.propDecidable _)) = [0, 1, 2, 3] := by
    rw [List.filter_eq_self.2]
    · rfl
    · intro i hi
      have := List.mem_range.1 hi
      exact @decide_eq_true _ (Classical.propDecidable _) (hr _ (by omega) (by omega))
  rw [e]
  rfl
theorem near_frame (hk : namedOk f = true) (hR : namedV f ∈ R) : ∃ j : Nat, (nearI L R)[j]? = some (f / 2) ∧ j < (nearI L R).length ∧ snapF (nearI L R) f = 2 * ((j : Int) + 1) := by
  obtain ⟨e1, e2, e3⟩ := namedV_of hk
  have h6 := hg.2.2.2.2.2.1
  have hm : f / 2 ∈ nearI L R := by
    rw [← e1]
    exact mem_nearI.2 (.root hR (hg.live' ⟨by omega, h6⟩))
  obtain ⟨j, hj, hl⟩ := at_mem hm
  refine ⟨j, hj, hl, ?_⟩
  unfold snapF
  rw [named_even hk, frI_pos (near_nodup L R) hj]
  rfl
omit hg in
theorem at_inj {all : List Int} (hd : all.Nodup) {i j : Nat} {k : Int} (h : all[i]? = some k) (h' : all[j]? = some k) : i = j := by
  have h1 := frI_pos hd h
  rw [frI_pos hd h'] at h1
  have := Option.some.inj h1
  omega
omit hg in
theorem four_at {all : List Int} (h : all.take 4 = [1, 2, 3, 4]) (k : Nat) (hk : k < 4) : all[k]? = some ((k : Int) + 1) := by
  have h1 : (all.take 4)[k]? = all[k]? := by rw [List.getElem?_take, if_pos hk]
  rw [← h1, h]
  match k, hk with
  | 0, _ => rfl
  | 1, _ => rfl
  | 2, _ => rfl
  | 3, _ => rfl
  | n + 4, hk => omega
/-- what is taken may be an image -/
theorem snap_good (h4 : ∀ k : Int, 1 ≤ k → k ≤ 4 → k ∈ R) (hF : namedV f ∈ R) : Good (snapL L (nearI L R)) (snapF (nearI L R) f) := by
  have hf := near_four hg h4
  have hl := near_len L R
  have hnl := hg.2.1
  have hsl : (snapL L (nearI L R)).length = (nearI L R).length := by simp [snapL]
  have h4l : 4 ≤ (nearI L R).length := by
    have := congrArg List.length hf
    rw [List.length_take] at this
    simp at this
    omega
  have h3 : ob (snapL L (nearI L R)) 3 = renO (nearI L R) (ob L 3) := by
    have h := four_at hf 3 (by omega)
    rw [snapL_ob _ h]
    have := (hg.obV (k := 4) ⟨by omega, by have := hg.1; omega⟩).1
    rw [show ((3 : Nat) : Int) + 1 = 4 from rfl, this]
    rfl
  obtain ⟨j, hj, hjl, e⟩ := near_frame hg hg.2.2.2.2.1 hF
  have e2 := namedV_two (k := (j : Int) + 1) (by omega)
  refine ⟨by omega, by omega, by rw [h3]; exact hg.2.2.1, by rw [h3]; simpa [renO] using hg.2.2.2.1, by rw [e]; exact e2.2, by rw [e, e2.1]; omega, snap_ok hg, fun i hi => ?_⟩
  rw [hsl] at hi ⊢
  refine ⟨snap_named hg hi, ?_⟩
  have hia : (nearI L R)[i]? = some (nearI L R)[i] := List.getElem?_eq_getElem hi
  have hb := nearI_bd (List.getElem_mem hi)
  rw [snap_coded hg hia]
  have := (hg.2.2.2.2.2.2.2 ((nearI L R)[i] - 1).toNat (by omega)).2
  rw [show ((((nearI L R)[i] - 1).toNat : Nat) : Int) + 1 = (nearI L R)[i] by omega] at this
  exact this
omit hg in
theorem near_all (hr : ∀ k : Int, 1 ≤ k → k ≤ L.length → Reach L R k) {i : Nat} (hi : i < L.length) : (nearI L R)[i]? = some ((i : Int) + 1) := by
  unfold nearI
  rw [List.filter_eq_self.2 (fun i hi => by
    have := List.mem_range.1 hi
    exact @decide_eq_true _ (Classical.propDecidable _) (hr _ (by omega) (by omega))), List.getElem?_map, List.getElem?_range hi]
  rfl
/-- where all is taken it is as it was -/
theorem snap_same (hr : ∀ k : Int, 1 ≤ k → k ≤ L.length → Reach L R k) : snapL L (nearI L R) = L ∧ snapF (nearI L R) f = f := by
  have hnl := near_len L R
  have hat := fun (i : Nat) (hi : i < L.length) => near_all hr hi
  have hlen : (nearI L R).length = L.length := by
    rcases Nat.lt_or_ge (nearI L R).length L.length with h | h
    · have := hat _ h
      rw [List.getElem?_eq_none (Nat.le_refl _)] at this
      cases this
    · omega
  have hren : ∀ z, namedOk z = true → z / 2 ≤ L.length → renI (nearI L R) z = z := fun z hn hz => by
    obtain ⟨-, e2, -⟩ := namedV_of hn
    have h1 := hat (z / 2 - 1).toNat (by omega)
    rw [show (((z / 2 - 1).toNat : Nat) : Int) + 1 = z / 2 by omega] at h1
    rw [ren_named (near_nodup L R) hn h1]
    have := named_even hn
    omega
  constructor
  · refine List.ext_getElem? fun i => ?_
    rcases Nat.lt_or_ge i L.length with hi | hi
    · have h1 := hat i hi
      have hid : (i : Int) + 1 ∈ nearI L R := List.mem_of_getElem? h1
      have hb := nearI_bd hid
      unfold snapL
      rw [List.getElem?_map, h1]
      simp only [Option.map_some]
      rw [(hg.obV hb).1, show ((i : Int) + 1 - 1).toNat = i by omega, List.getElem?_eq_getElem hi]
      have hoe : ob L i = L[i] := by unfold ob; rw [List.getElem?_eq_getElem hi]; rfl
      have hcl : ∀ z ∈ (ob L i).cls :: (ob L i).W, numOk z = true ∨ namedOk z = true → renI (nearI L R) z = z := fun z hz hw => by
        rcases hw with hn | hn
        · exact ren_num hn
        · have h2 := nearI_bd (near_closedI hg hid (z := z) (by rw [show ((i : Int) + 1 - 1).toNat = i by omega]; exact hz) hn)
          exact hren z hn h2.2
      obtain ⟨c1, -, -, -, -⟩ := okB_cases (hg.2.2.2.2.2.2.1 _ (ob_at hi))
      have e1 := hcl _ List.mem_cons_self (.inr c1)
      have e2 : (ob L i).W.map (renI (nearI L R)) = (ob L i).W := by
        conv => rhs; rw [← List.map_id (ob L i).W]
        refine List.map_congr_left fun z hz => hcl z (List.mem_cons_of_mem _ hz) (word_ref hg hid (by rw [show ((i : Int) + 1 - 1).toNat = i by omega]; exact hz))
      unfold renO
      rw [e1, e2, ← hoe]
    · rw [List.getElem?_eq_none hi, List.getElem?_eq_none (by simp [snapL]; omega)]
  · obtain ⟨e1, e2, e3⟩ := namedV_of hg.2.2.2.2.1
    have h6 := hg.2.2.2.2.2.1
    have h1 := hat (f / 2 - 1).toNat (by omega)
    rw [show (((f / 2 - 1).toNat : Nat) : Int) + 1 = f / 2 by omega] at h1
    unfold snapF
    have he := named_even hg.2.2.2.2.1
    rw [he, frI_pos (near_nodup L R) h1]
    show 2 * ((((f / 2 - 1).toNat : Nat) : Int) + 1) = _
    omega
end
/-- of what is taken all is come to -/
theorem snap_reach {L : List O} {f : Int} (hg : Good L f) {R' : List Int} (h4' : ∀ k : Int, 1 ≤ k → k ≤ 4 → k ∈ R') (hF' : namedV (snapF (nearI L [1, 2, 3, 4, namedV f]) f) ∈ R') {k : Int} (hk : Reach L [1, 2, 3, 4, namedV f] k) :
    ∀ j : Nat, (nearI L [1, 2, 3, 4, namedV f])[j]? = some k → Reach (snapL L (nearI L [1, 2, 3, 4, namedV f])) R' ((j : Int) + 1) := by
  have h4 : ∀ k : Int, 1 ≤ k → k ≤ 4 → k ∈ [1, 2, 3, 4, namedV f] := fun k a b => by simp; omega
  have hF : namedV f ∈ [1, 2, 3, 4, namedV f] := by simp
  have hs := snap_good hg h4 hF
  have hf := near_four hg h4
  obtain ⟨jf, hjf, hjl, ef⟩ := near_frame hg hg.2.2.2.2.1 hF
  have hfv := (namedV_of hg.2.2.2.2.1).1
  have hnd := near_nodup L [1, 2, 3, 4, namedV f]
  have hl := near_len L [1, 2, 3, 4, namedV f]
  have hnl := hg.2.1
  have hsl : (snapL L (nearI L [1, 2, 3, 4, namedV f])).length = (nearI L [1, 2, 3, 4, namedV f]).length := by simp [snapL]
  have hlive : ∀ j : Nat, j < (nearI L [1, 2, 3, 4, namedV f]).length → live (snapL L (nearI L [1, 2, 3, 4, namedV f])) ((j : Int) + 1) := fun j hj => hs.live' ⟨by omega, by omega⟩
  have hlt : ∀ {j : Nat} {k : Int}, (nearI L [1, 2, 3, 4, namedV f])[j]? = some k → j < (nearI L [1, 2, 3, 4, namedV f]).length := fun h => (List.getElem?_eq_some_iff.1 h).1
  rw [ef, (namedV_two (k := (jf : Int) + 1) (by omega)).1] at hF'
  induction hk with
  | @root k hkR hkl =>
    intro j hj
    refine .root ?_ (hlive j (hlt hj))
    have hsm : ∀ q : Nat, q < 4 → k = (q : Int) + 1 → (j : Int) + 1 ∈ R' := fun q hq hqk => by
      have h1 := four_at hf q hq
      rw [← hqk] at h1
      have := at_inj hnd hj h1
      subst this
      exact h4' _ (by omega) (by omega)
    simp only [List.mem_cons, List.not_mem_nil, or_false] at hkR
    rcases hkR with e | e | e | e | e
    · exact hsm 0 (by omega) (by omega)
    · exact hsm 1 (by omega) (by omega)
    · exact hsm 2 (by omega) (by omega)
    · exact hsm 3 (by omega) (by omega)
    · have := at_inj hnd (hj.trans (congrArg some (e.trans hfv))) hjf
      subst this
      exact hF'
  | @step id k hid hkr hkl ih =>
    intro j hj
    have hidm := mem_nearI.2 hid
    obtain ⟨i, hi, hil⟩ := at_mem hidm
    refine .step (ih i hi) ?_ (hlive j (hlt hj))
    obtain ⟨z, hz, he⟩ := List.mem_filterMap.1 hkr
    unfold idOf at he
    split at he
    · rename_i hn
      cases he
      obtain ⟨j2, hj2, hj2l, e⟩ := ren_word hg hidm hz hn
      have := at_inj hnd hj hj2
      subst this
      rw [show ((i : Int) + 1 - 1).toNat = i by omega, snapL_ob _ hi, (hg.obV (nearI_bd hidm)).1]
      have hm : renI (nearI L [1, 2, 3, 4, namedV f]) z ∈ (renO (nearI L [1, 2, 3, 4, namedV f]) (ob L (id - 1).toNat)).cls :: (renO (nearI L [1, 2, 3, 4, namedV f]) (ob L (id - 1).toNat)).W := by
        have : renI (nearI L [1, 2, 3, 4, namedV f]) z ∈ ((ob L (id - 1).toNat).cls :: (ob L (id - 1).toNat).W).map (renI (nearI L [1, 2, 3, 4, namedV f])) := List.mem_map.2 ⟨z, hz, rfl⟩
        exact this
      refine List.mem_filterMap.2 ⟨_, hm, ?_⟩
      rw [e, idOf, if_pos (namedV_two (k := (j : Int) + 1) (by omega)).2]
      congr 1
      omega
    · cases he
/-- the roots, by their numbers -/
theorem nums_roots (f : Int) (rs : List Int) : numsOf ([2, 4, 6, 8, f] ++ rs) = [1, 2, 3, 4, namedV f] ++ numsOf rs := by
  unfold numsOf
  rw [List.map_append]
  rfl
/-- THE LAW: snapped, it may be; snapped once more it is the same; snapped with all it is as it was -/
theorem snap_law {L : List O} {f : Int} (h : imgOk L f = true) (all : List Int) (ha : all = nearI L (numsOf ([2, 4, 6, 8, f] ++ []))) :
    (all.take 4 = [1, 2, 3, 4] ∧ imgOk (snapL L all) (snapF all f) = true ∧ (snapL L all).length ≤ L.length) ∧
    (∀ a2, a2 = nearI (snapL L all) (numsOf ([2, 4, 6, 8, snapF all f] ++ [])) → a2.take 4 = [1, 2, 3, 4] ∧ snapL (snapL L all) a2 = snapL L all ∧ snapF a2 (snapF all f) = snapF all f) ∧
    (∀ a3, a3 = nearI L (numsOf ([2, 4, 6, 8, f] ++ allL L)) → a3.take 4 = [1, 2, 3, 4] ∧ snapL L a3 = L ∧ snapF a3 f = f) := by
  have hg := imgOk_iff.1 h
  rw [nums_roots, show numsOf [] = [] from rfl, List.append_nil] at ha
  subst ha
  have h4 : ∀ (g : Int) (r : List Int) (k : Int), 1 ≤ k → k ≤ 4 → k ∈ [1, 2, 3, 4, namedV g] ++ r := fun g r k a b => by simp; omega
  have hF : ∀ (g : Int) (r : List Int), namedV g ∈ [1, 2, 3, 4, namedV g] ++ r := fun g r => by simp
  have h40 : ∀ (g : Int) (k : Int), 1 ≤ k → k ≤ 4 → k ∈ [1, 2, 3, 4, namedV g] := fun g k a b => by simp; omega
  have hF0 : ∀ (g : Int), namedV g ∈ [1, 2, 3, 4, namedV g] := fun g => by simp
  have hs := snap_good hg (h40 f) (hF0 f)
  refine ⟨⟨near_four hg (h40 f), imgOk_iff.2 hs, ?_⟩, fun a2 h2 => ?_, fun a3 h3 => ?_⟩
  · have := near_len L [1, 2, 3, 4, namedV f]
    simpa [snapL] using this
  · subst h2
    rw [nums_roots, show numsOf [] = [] from rfl, List.append_nil]
    refine ⟨near_four hs (h40 _), ?_⟩
    refine snap_same hs fun k k1 k2 => ?_
    have hk2 : k ≤ (nearI L [1, 2, 3, 4, namedV f]).length := by simpa [snapL] using k2
    have hi : (k - 1).toNat < (nearI L [1, 2, 3, 4, namedV f]).length := by omega
    have hr := snap_reach hg (h40 _) (hF0 _) (mem_nearI.1 (List.getElem_mem hi)) (k - 1).toNat (List.getElem?_eq_getElem hi)
    rw [show (((k - 1).toNat : Nat) : Int) + 1 = k by omega] at hr
    exact hr
  · subst h3
    rw [nums_roots]
    refine ⟨near_four hg (h4 f _), ?_⟩
    refine snap_same hg fun k k1 k2 => ?_
    have hnl := hg.2.1
    refine .root (List.mem_append_right _ ?_) (hg.live' ⟨k1, k2⟩)
    have hlv := hg.live' ⟨k1, k2⟩
    unfold numsOf allL allTo
    refine List.mem_map.2 ⟨2 * k, List.mem_map.2 ⟨(k - 1).toNat, List.mem_filter.2 ⟨List.mem_range.2 (by omega), by simpa using hlv.2⟩, by omega⟩, (namedV_two (by omega)).1⟩

end Go.Proofs.YtncoanmgifgcbaaDoor
