/- The law TreeGoes. -/
import Derived.Test.YtffmjjocjcomnaaDoorDiffsWalk
import Derived.Test.YtffmjjocjcomnaaDoorPutsLaw
import Derived.Test.YtffmjjocjcomnaaDoorGoPlain
namespace Go.Proofs.YtffmjjocjcomnaaDoor
set_option maxRecDepth 100000
open Go.RowKit

set_option maxHeartbeats 1000000 in
theorem goes_great (va vb : Value) (na nb : Nat) (a b : List FileL) (w : World) (ha : SliceAt w 2 va na (fileCells a)) (hb : SliceAt w 2 vb nb (fileCells b))
    (hc : greatB a = true ∨ greatB b = true ∨ 30 < a.length ∨ 30 < b.length ∨ checkL a ≠ 0 ∨ checkL b ≠ 0) :
    Calls Tryd.prog 7 #[va, vb] w (Fine w) := by
  have ha0 := ha
  have hb0 := hb
  obtain ⟨rfl, x0, c0, rfl, hc0, hm0, -⟩ := ha.files
  obtain ⟨rfl, x1, c1, rfl, hc1, hm1, -⟩ := hb.files
  clear ha hb
  unfold maxLen at hm0 hm1
  cases hg : greatB a with
  | true =>
    have Hg := hid (great_is _ _ a true hg _ ha0)
    clear hg hc
    go_enter Tryd.func7, Tryd.ntmps7
    go_wp2_with fail
    refine Hg.out.mono ?_
    rintro e w1 ⟨rfl, rfl⟩
    go_wp2_with fail
    refine (fixed_any _).mono ?_
    rintro e w2 ⟨rfl, hb2⟩
    go_wp2_with fail
    go_ret
    exact ⟨rfl, hb2⟩
  | false =>
    have Hg := hid (great_is _ _ a false hg _ ha0)
    cases hg2 : greatB b with
    | true =>
      have Hg2 := hid (great_is _ _ b true hg2 _ hb0)
      clear hg hg2 hc
      go_enter Tryd.func7, Tryd.ntmps7
      go_wp2_with fail
      refine Hg.out.mono ?_
      rintro e w1 ⟨rfl, rfl⟩
      go_wp2_with fail
      refine Hg2.out.mono ?_
      rintro e w1 ⟨rfl, rfl⟩
      go_wp2_with fail
      refine (fixed_any _).mono ?_
      rintro e w2 ⟨rfl, hb2⟩
      go_wp2_with fail
      go_ret
      exact ⟨rfl, hb2⟩
    | false =>
      have Hg2 := hid (great_is _ _ b false hg2 _ hb0)
      have ra := reach_ok hg
      have rb := reach_ok hg2
      unfold reachOk at ra rb
      have Ka := hid (refCheck_any _ _ a w ha0 ra)
      have Kb := hid (fun W (hW : Below w.heap.size w W) => refCheck_any _ _ b W (hb0.below hW (Nat.le_refl _)) rb)
      have hc := hid hc
      generalize checkL a = ca at *
      generalize checkL b = cb at *
      have hcc : 30 < a.length ∨ 30 < b.length ∨ ca ≠ 0 ∨ cb ≠ 0 := by
        rcases hc.out with h | h | h
        · rw [hg] at h; cases h
        · rw [hg2] at h; cases h
        · exact h
      clear hc hg hg2 ra rb ha0 hb0
      by_cases h30 : 30 < a.length
      · clear hcc
        have h30' : (30 : Int) < (a.length : Int) := by omega
        go_enter Tryd.func7, Tryd.ntmps7
        go_wp2_with fail
        refine Hg.out.mono ?_
        rintro e w1 ⟨rfl, rfl⟩
        go_wp2_with fail
        refine Hg2.out.mono ?_
        rintro e w1 ⟨rfl, rfl⟩
        go_wp2_with fail
        refine (fixed_any _).mono ?_
        rintro e w2 ⟨rfl, hb2⟩
        go_wp2_with fail
        go_ret
        exact ⟨rfl, hb2⟩
      · have n30 : ¬ (30 : Int) < (a.length : Int) := by omega
        by_cases h31 : 30 < b.length
        · clear hcc
          have h31' : (30 : Int) < (b.length : Int) := by omega
          go_enter Tryd.func7, Tryd.ntmps7
          go_wp2_with fail
          refine Hg.out.mono ?_
          rintro e w1 ⟨rfl, rfl⟩
          go_wp2_with fail
          refine Hg2.out.mono ?_
          rintro e w1 ⟨rfl, rfl⟩
          go_wp2_with fail
          refine (fixed_any _).mono ?_
          rintro e w2 ⟨rfl, hb2⟩
          go_wp2_with fail
          go_ret
          exact ⟨rfl, hb2⟩
        · have n31 : ¬ (30 : Int) < (b.length : Int) := by omega
          by_cases hca : ca = 0
          · have hcb : cb ≠ 0 := by
              rcases hcc with h | h | h | h
              · omega
              · omega
              · omega
              · exact h
            have q0 : ((cb : Int) != 0) = true := neT (by omega)
            subst hca
            clear hcc hcb
            go_enter Tryd.func7, Tryd.ntmps7
            go_wp2_with fail
            refine Hg.out.mono ?_
            rintro e w1 ⟨rfl, rfl⟩
            go_wp2_with fail
            refine Hg2.out.mono ?_
            rintro e w1 ⟨rfl, rfl⟩
            go_wp2_with fail
            refine Ka.out.mono ?_
            rintro e w1 ⟨rfl, hb1⟩
            go_wp2_with fail
            refine (Kb.out _ hb1).mono ?_
            rintro e w2 ⟨rfl, hb2⟩
            go_wp2_with fail
            refine (fixed_any _).mono ?_
            rintro e w3 ⟨rfl, hb3⟩
            go_wp2_with fail
            go_ret
            exact ⟨rfl, Below.chain (Below.chain hb1 hb2) hb3⟩
          · have q0 : ((ca : Int) != 0) = true := neT (by omega)
            clear hcc hca
            go_enter Tryd.func7, Tryd.ntmps7
            go_wp2_with fail
            refine Hg.out.mono ?_
            rintro e w1 ⟨rfl, rfl⟩
            go_wp2_with fail
            refine Hg2.out.mono ?_
            rintro e w1 ⟨rfl, rfl⟩
            go_wp2_with fail
            refine Ka.out.mono ?_
            rintro e w1 ⟨rfl, hb1⟩
            go_wp2_with fail
            refine (fixed_any _).mono ?_
            rintro e w3 ⟨rfl, hb3⟩
            go_wp2_with fail
            go_ret
            exact ⟨rfl, Below.chain hb1 hb3⟩

set_option maxHeartbeats 2000000 in
theorem law_goes (va vb : Value) (na nb : Nat) (a b : List FileL) (w : World) (ha : SliceAt w 2 va na (fileCells a)) (hb : SliceAt w 2 vb nb (fileCells b)) :
    Calls Tryd.prog 7 #[va, vb] w (Fine w) := by
  by_cases hc : greatB a = true ∨ greatB b = true ∨ 30 < a.length ∨ 30 < b.length ∨ checkL a ≠ 0 ∨ checkL b ≠ 0
  · exact goes_great va vb na nb a b w ha hb hc
  obtain ⟨hg, hg2, hla, hlb, hca, hcb⟩ : greatB a = false ∧ greatB b = false ∧ a.length ≤ 30 ∧ b.length ≤ 30 ∧ checkL a = 0 ∧ checkL b = 0 := by
    simp only [not_or, Bool.not_eq_true, Nat.not_lt, Decidable.not_not] at hc; exact hc
  clear hc
  have ra := reach_ok hg
  have rb := reach_ok hg2
  unfold reachOk at ra rb
  have hra := check_rises hca
  have hrb := check_rises hcb
  obtain ⟨i0, hi, hz0, hz1, hz2⟩ := info_parts file_info
  have Hg := hid (great_is va na a false hg w ha)
  have Hg2 := hid (great_is vb nb b false hg2 w hb)
  have Ka : Hid (Calls Tryd.prog 12 #[va] w fun e w' => e = .returned (.int .i64 0) ∧ Below w.heap.size w w') := by
    have := refCheck_any va na a w ha ra; rw [hca] at this; exact hid this
  have Kb : Hid (∀ W, Below w.heap.size w W → Calls Tryd.prog 12 #[vb] W fun e w' => e = .returned (.int .i64 0) ∧ Below W.heap.size W w') := by
    have := fun W (hW : Below w.heap.size w W) => refCheck_any vb nb b W (hb.below hW (Nat.le_refl _)) rb
    rw [hcb] at this; exact hid this
  have Hd := hid (fun W (hW : Below w.heap.size w W) => diffT_any va vb na nb a b W (ha.below hW (Nat.le_refl _)) (hb.below hW (Nat.le_refl _)) ra rb (by omega) (by omega))
  unfold diffT at Hd
  rw [if_pos ⟨hca, hcb⟩] at Hd
  unfold ChgPost at Hd
  have hdl := diff_len a b
  have Hway := hid (fun (t : List FileL) (l : List (List UInt8 × Nat)) (h : OnWay a b t l) (hl : l.length ≤ 60) => way_good h hca hcb (by omega))
  have Hstep := hid (fun (t : List FileL) l x (h : OnWay a b t l) (hx : x ∈ diffL a b) => way_step hra hrb h hx)
  have Hmay := hid (fun x (hx : x ∈ diffL a b) => diff_may hca hcb hx)
  have Hgot := hid (fun p k (hx : (p, k) ∈ diffL a b) hk => diff_got hra hrb hx hk)
  have Hend := hid (fun t (h : OnWay a b t (diffL a b)) => way_end hra hrb h)
  have Hpl := hid (fun x (hx : x ∈ diffL a b) => show x.1.length ≤ 300 from by
    obtain ⟨p, k⟩ := x
    rcases kind_in ((diff_mem a b hra hrb p k).1 hx) with ⟨d, h⟩ | ⟨d, h⟩
    · exact ((great_no hg).2 _ ((get_mem hra).1 h)).1
    · exact ((great_no hg2).2 _ ((get_mem hrb).1 h)).1)
  have Hda := hid (fun p d (h : getL p b = some d) => ((great_no hg2).2 _ ((get_mem hrb).1 h)).2)
  have Hbig := hid (fun (t : List FileL) l (h : OnWay a b t l) (g : FileL) (hg : g ∈ t) => show g.1.length ≤ 1000000000000 ∧ g.2.length ≤ 1000000000000 from by
    rcases (h.mem g).1 hg with ⟨-, hm⟩ | ⟨-, hm⟩
    · exact rb g hm
    · exact ra g hm)
  have Hst := hid (way_start (b := b) hra)
  generalize diffL a b = ds at *
  have hds : ds.length ≤ 60 := by omega
  have HA := hid ha
  have HB := hid hb
  obtain ⟨rfl, x0, c0, rfl, hc0, hm0, -⟩ := ha.files
  obtain ⟨rfl, x1, c1, rfl, hc1, hm1, -⟩ := hb.files
  unfold maxLen at hm0 hm1
  clear hg hg2 ra rb hra hrb hca hcb ha hb hdl
  go_enter Tryd.func7, Tryd.ntmps7
  go_wp2_with fail
  refine Hg.out.mono ?_
  rintro e w1 ⟨rfl, rfl⟩
  go_wp2_with fail
  refine Hg2.out.mono ?_
  rintro e w1 ⟨rfl, rfl⟩
  go_wp2_with fail
  refine Ka.out.mono ?_
  rintro e w1 ⟨rfl, hb1⟩
  go_wp2_with fail
  refine (Kb.out _ hb1).mono ?_
  rintro e w2 ⟨rfl, hb2⟩
  have hB2 := Below.chain hb1 hb2
  clear hb1 hb2
  go_wp2_with fail
  refine (Hd.out _ hB2).mono ?_
  rintro e w3 ⟨v3, rfl, hs3, hb3⟩
  have hB3 := Below.chain hB2 hb3
  have hs3k := hid hs3
  obtain ⟨-, x3, c3, rfl, hc3, hm3, -⟩ := hs3.chg
  unfold maxLen at hm3
  have HA3 := hid (HA.out.below (hB3.alloc hB3.size (.cells #[] 40)) (Nat.le_refl _))
  clear hs3 hb3 hB2
  go_wp2_with (at_builtin; go_must (refine wpList_append_src rfl _ _ 22 rfl w3.heap.size 40 i0 (.agg #[.string ⟨#[]⟩, .string ⟨#[]⟩]) 2 32 Tryd.underlying22 hi hz0 hz1 hz2 rfl (by decide) _ 0 [] rfl ?c1 _ a.length (fileCells a) rfl ?c2 ?c3 ?c4 ?c5 ?c6 ?_))
  case c1 => exact World.ownsRow_made w3 #[] 0 (Nat.le_refl _) (Nat.zero_le _) (by simp)
  case c2 => exact HA3.out
  case c3 => exact fileCells_one a
  case c4 => unfold maxLen; omega
  case c5 => omega
  case c6 => simp
  intro v4 w4 hown hgrow
  have hb4 : Below w3.heap.size w3 w4 := ((Below.refl _ w3).alloc (Nat.le_refl _) _).grown hgrow (by simp) (by intro k hk; simp [Value.ownBlock] at hk; omega)
  have hs4 : SliceAt w4 2 v4 a.length (fileCells a) := by
    have := SliceAt.of_owns hown (by unfold maxLen; omega)
    simpa using this
  have HS := hid (hs3k.out.below hb4 (Nat.le_refl _))
  have HB4 := hid (Below.chain hB3 hb4)
  have Hs4 := hid hs4
  clear hown hgrow hb4 hs3k hB3 HA3 hs4
  go_wp2_with fail
  go_loopw [6, 7] (fun v i wr => ∃ (k : Nat) (t : List FileL), k ≤ ds.length ∧ i = .int .i64 k ∧ OnWay a b t (ds.take k) ∧ SliceAt wr 2 v t.length (fileCells t) ∧ Below w4.heap.size w4 wr) (fun _ i _ => ds.length - (intOf i).toNat)
  case atStart => exact ⟨0, a, by omega, rfl, Hst.out, Hs4.out, Below.refl _ _⟩
  case round =>
    obtain ⟨k, t, hk, rfl, hway, hst, hbw⟩ := hrel
    by_cases hlt : k < ds.length
    · have hx : ds[k] ∈ ds := List.getElem_mem hlt
      have hstep := Hstep.out t _ _ hway hx
      rw [← take_at ds k hlt] at hstep
      have hck := Hway.out t _ hway (by simp; omega)
      have hck2 := Hway.out _ _ hstep (by simp; omega)
      have hmay := Hmay.out _ hx
      have hpl := Hpl.out _ hx
      have htb := Hbig.out t _ hway
      have htl : t.length ≤ 90 := by have := hway.len; simp at this; omega
      have hsw := HS.out.below hbw (Nat.le_refl _)
      obtain ⟨-, a9, c9, hv9, -, -, hx9⟩ := hsw.chg
      obtain ⟨q, o, rfl, hq, hcl⟩ := hx9 k hlt
      obtain ⟨rfl, rfl⟩ : x3 = some ⟨q, o, none⟩ ∧ c3 = c9 := by simpa using hv9
      obtain ⟨e0, e1⟩ := hcl k hlt
      clear hcl hx9 hv9 hsw
      have hgt := fun (h2 : ds[k].2 ≠ 2) => Hgot.out ds[k].1 ds[k].2 hx h2
      obtain ⟨xk, hxk⟩ : ∃ x, ds[k] = x := ⟨_, rfl⟩
      rw [hxk] at e0 e1 hstep hck2 hmay hpl hgt
      obtain ⟨p, kd⟩ := xk
      clear hxk hx
      simp only [] at e0 e1 hmay hpl hgt
      have hMay := hid (refMay_is p (by omega) true hmay wr)
      by_cases hkd : kd = 2
      · subst hkd
        have egs : goStep b t (p, 2) = dropL t p := by unfold goStep; rw [if_pos rfl]
        rw [egs] at hstep hck2
        have hdt : dropT t p = dropL t p := by unfold dropT; rw [if_pos hck]
        have HD := hid (fun W (hW : Below wr.heap.size wr W) => drop_any _ _ t p W (hst.below hW (Nat.le_refl _)) (by omega) htb)
        rw [hdt] at HD
        unfold FilesAt at HD
        have HST := hid hstep
        clear egs hdt hstep hck2 hck hmay hpl htb hgt hway hst
        go_wp2_with fail
        refine hMay.out.mono ?_
        rintro e w5 ⟨rfl, hb5⟩
        have d0 := Below.keeps' hb5 e0
        have d1 := Below.keeps' hb5 e1
        clear e0 e1
        go_wp2_with fail
        refine (HD.out _ hb5).mono ?_
        rintro e w6 ⟨v6, rfl, hs6, hb6⟩
        have hbx := hbw.trans ((Below.chain hb5 hb6).mono hbw.size)
        clear hb5 hb6 hbw
        go_wp2_with fail
        exact ⟨⟨k + 1, _, by omega, by go_num, HST.out, hs6, hbx⟩, by simp [intOf]; omega⟩
      · have qk : ((kd : Int) == 2) = false := eqF (by omega)
        obtain ⟨d, hd⟩ := hgt hkd
        have egs : goStep b t (p, kd) = withL t (p, d) := by unfold goStep; rw [if_neg hkd, hd]; rfl
        rw [egs] at hstep hck2
        have hpt : putT t (p, d) = withL t (p, d) := by unfold putT; rw [if_pos hck, if_pos hck2]
        have hdl := Hda.out p d hd
        have HD := hid (fun W (hW : Below wr.heap.size wr W) => put_any _ _ t (p, d) W (hst.below hW (Nat.le_refl _)) (by omega) htb (by simp; omega))
        rw [hpt] at HD
        unfold FilesAt at HD
        have HG := hid (fun W (hW : Below wr.heap.size wr W) => refGet_any _ _ b p (.string (bs d)) (.bool true) (by unfold getPair; rw [hd]) W (HB.out.below (HB4.out.trans ((hbw.trans (hW.mono hbw.size)).mono HB4.out.size)) (Nat.le_refl _)))
        have HST := hid hstep
        clear egs hpt hdl hstep hck2 hck hmay hpl htb hgt hway hst hkd hd
        go_wp2_with fail
        refine hMay.out.mono ?_
        rintro e w5 ⟨rfl, hb5⟩
        have d0 := Below.keeps' hb5 e0
        have d1 := Below.keeps' hb5 e1
        clear e0 e1
        go_wp2_with fail
        refine (HG.out _ hb5).mono ?_
        rintro e w5 ⟨rfl, rfl⟩
        go_wp2_with fail
        refine (HD.out _ hb5).mono ?_
        rintro e w6 ⟨v6, rfl, hs6, hb6⟩
        have hbx := hbw.trans ((Below.chain hb5 hb6).mono hbw.size)
        clear hb5 hb6 hbw
        go_wp2_with fail
        exact ⟨⟨k + 1, _, by omega, by go_num, HST.out, hs6, hbx⟩, by simp [intOf]; omega⟩
    · obtain rfl : k = ds.length := by omega
      rw [List.take_length] at hway
      obtain rfl := Hend.out t hway
      have HT := hid hst
      have hbb := HB.out.below (HB4.out.trans (hbw.mono HB4.out.size)) (Nat.le_refl _)
      have HH := hid hway
      clear hway hst
      go_wp2_with fail
      refine (same_self _ _ _ _ t _ HT.out hbb).mono ?_
      rintro e w6 ⟨rfl, hd6⟩
      go_wp2_with fail
      refine (fixed_any _).mono ?_
      rintro e w7 ⟨rfl, hb7⟩
      go_wp2_with fail
      go_ret
      exact ⟨rfl, Below.chain (Below.chain (Below.chain HB4.out hbw) hd6.below) hb7⟩
end Go.Proofs.YtffmjjocjcomnaaDoor
