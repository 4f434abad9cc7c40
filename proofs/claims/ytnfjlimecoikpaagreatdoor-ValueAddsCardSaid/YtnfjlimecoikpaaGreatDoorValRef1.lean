/- The document's walks over values: keys, one node. -/
import Derived.Test.YtnfjlimecoikpaaGreatDoorValMem
import Derived.Test.YtnfjlimecoikpaaGreatDoorMPlain
import Derived.Test.YtnfjlimecoikpaaGreatDoorMQuiet
import Derived.IntWalk
namespace Go.Proofs.YtnfjlimecoikpaaGreatDoor
set_option maxRecDepth 100000
open Go.RowKit

set_option maxHeartbeats 1000000 in
theorem rkeys_any (k n : Int) (s : List UInt8) (lv kv : Value) (m : Nat) (cs : List VM) (hm : cs.length = m) (ks : List (List UInt8)) (b : Bool) (hb : (m == ks.length && riseB ks) = b) (w : World) (hl : SliceAt w 5 lv m (vmCells cs)) (hk : SliceAt w 1 kv ks.length (strCells ks)) :
    Calls Tryz.prog 64 #[valA k n s lv kv] w fun e w' => e = .returned (.bool b) ∧ Below w.heap.size w w' := by
  subst hm
  obtain ⟨-, la, lc, rfl, hlc, hlm, -⟩ := hl.vms
  have HK := hid (fun W (hW : Below w.heap.size w W) => hk.below hW (Nat.le_refl _))
  obtain ⟨-, ka, kc, rfl, hkc, hkm, -⟩ := hk.str
  unfold maxLen at hlm hkm
  have HB := hid (box_new w k n s (.slice la cs.length lc) (.slice ka ks.length kc) 25 (0, 0))
  have HR := hid hb
  clear hb hl hk
  by_cases hlen : cs.length = ks.length
  · have q1 : ((ks.length : Int) != (cs.length : Int)) = false := neF (by omega)
    have HE : Hid (riseB ks = b) := hid (by rw [← HR.out, hlen]; simp)
    clear hlen HR
    obtain ⟨c0, c1, c2, c3, c4⟩ := HB.out
    go_enter Tryz.func64, Tryz.ntmps64
    go_wp2_with fail
    go_loopw [14] (fun i wr => ∃ j : Nat, j ≤ ks.length ∧ i = .int .i64 j ∧ Hid (riseB (ks.take j) = true) ∧ Below w.heap.size w wr ∧ Box wr w.heap.size k n s (.slice la cs.length lc) (.slice ka ks.length kc)) (fun i _ => ks.length - (intOf i).toNat)
    case atStart => exact ⟨0, by omega, rfl, hid rfl, below_new w _, HB.out⟩
    case round =>
      obtain ⟨j, hj, rfl, HA, hbw, hbx⟩ := hrel
      have HBX := hid hbx
      obtain ⟨d0, d1, d2, d3, d4⟩ := hbx
      clear c0 c1 c2 c3 c4
      by_cases hlt : j < ks.length
      · obtain ⟨-, ka', kc', hv, -, -, hx⟩ := (HK.out _ hbw).str
        obtain ⟨kb, ko, rfl, hkb, hcl⟩ := hx j hlt
        obtain ⟨rfl, rfl⟩ : ka = some ⟨kb, ko, none⟩ ∧ kc = kc' := by simpa using hv
        have e0 := hcl j hlt
        have HT := hid (rise_take ks j hlt)
        have HBad := hid (fun h => rise_bad (ks := ks) hlt h)
        clear hx hv
        by_cases h1 : 65536 < ks[j].length
        · have HF : Hid (b = false) := hid (by rw [← HE.out]; exact HBad.out (by unfold nextB; rw [decide_eq_false (by omega)]; rfl))
          have h1' : (65536 : Int) < (ks[j].length : Int) := by omega
          clear hcl h1
          go_wp2_with fail
          refine wp_region_wq (by kernel_rfl) (by kernel_rfl) ?_
          repeat (refine WQ.step (fun K hK => ?_); go_simp; first | (refine hK _ ?_; clear hK K) | (apply Exists.intro; refine ⟨fun W hW => ?_, hK _ ?_⟩; (first | with_reducible rfl | (have zz0 := Below.keeps hW d0; have zz1 := Below.keeps hW d1; have zz2 := Below.keeps hW d2; have zz3 := Below.keeps hW d3; have zz4 := Below.keeps hW d4; have zz5 := Below.keeps hW e0; go_simp; first | rfl | exact ⟨rfl, rfl⟩ | (rw [if_neg (by omega)]; exact ⟨rfl, rfl⟩))); clear hK K))
          refine WQ.nil ?_
          intro wq hwq
          have hbq := Below.chain hbw hwq
          have hbxq := HBX.out.keeps hwq
          go_wp2_with fail
          go_ret
          exact ⟨by rw [HF.out]; rfl, hbq⟩
        · have h1' : ¬ (65536 : Int) < (ks[j].length : Int) := by omega
          have h1d : decide (ks[j].length ≤ 65536) = true := decide_eq_true (by omega)
          by_cases h0 : j = 0
          · have HN : Hid (riseB (ks.take (j + 1)) = true) := hid (by rw [HT.out, HA.out]; unfold nextB; rw [h1d, decide_eq_true h0]; rfl)
            have hn : ¬ 0 < j := by omega
            clear hcl h1 h1d h0
            go_wp2_with fail
            refine wp_region_wq (by kernel_rfl) (by kernel_rfl) ?_
            repeat (refine WQ.step (fun K hK => ?_); go_simp; first | (refine hK _ ?_; clear hK K) | (apply Exists.intro; refine ⟨fun W hW => ?_, hK _ ?_⟩; (first | with_reducible rfl | (have zz0 := Below.keeps hW d0; have zz1 := Below.keeps hW d1; have zz2 := Below.keeps hW d2; have zz3 := Below.keeps hW d3; have zz4 := Below.keeps hW d4; have zz5 := Below.keeps hW e0; go_simp; first | rfl | exact ⟨rfl, rfl⟩ | (rw [if_neg (by omega)]; exact ⟨rfl, rfl⟩))); clear hK K))
            refine WQ.nil ?_
            intro wq hwq
            have hbq := Below.chain hbw hwq
            have hbxq := HBX.out.keeps hwq
            go_wp2_with fail
            exact ⟨⟨j + 1, by omega, by go_num, HN, hbq, hbxq⟩, by simp [intOf]; omega⟩
          · obtain ⟨p, hp, hpl, hpj⟩ : ∃ p : Nat, (j : Int) - 1 = (p : Int) ∧ p < ks.length ∧ p = j - 1 := ⟨j - 1, by omega, by omega, rfl⟩
            have hw : IntKind.i64.wrap (p : Int) = (p : Int) := IntWalk.i64_in _ (by omega)
            have HX : Hid (nextB ks j hlt = less ks[p] ks[j]) := hid (by subst hpj; unfold nextB; rw [h1d, decide_eq_false h0]; rfl)
            have e1 := hcl p hpl
            have hpos : 0 < j := by omega
            cases hls : less ks[p] ks[j] with
            | true =>
              have HN : Hid (riseB (ks.take (j + 1)) = true) := hid (by rw [HT.out, HA.out, HX.out, hls]; rfl)
              have hl1 : Op.bytesLess ks[j] ks[p] = false := less_asymm hls
              have hl2 : (ks[j] == ks[p]) = false := by rw [beq_eq_false_iff_ne]; exact fun e => less_ne hls e.symm
              clear hcl h1 h1d hls hpj h0
              go_wp2_with fail
              refine wp_region_wq (by kernel_rfl) (by kernel_rfl) ?_
              repeat (refine WQ.step (fun K hK => ?_); go_simp; first | (refine hK _ ?_; clear hK K) | (apply Exists.intro; refine ⟨fun W hW => ?_, hK _ ?_⟩; (first | with_reducible rfl | (have zz0 := Below.keeps hW d0; have zz1 := Below.keeps hW d1; have zz2 := Below.keeps hW d2; have zz3 := Below.keeps hW d3; have zz4 := Below.keeps hW d4; have zz5 := Below.keeps hW e0; have zz6 := Below.keeps hW e1; go_simp; first | rfl | exact ⟨rfl, rfl⟩ | (rw [if_neg (by omega)]; exact ⟨rfl, rfl⟩))); clear hK K))
              refine WQ.nil ?_
              intro wq hwq
              clear hp hw
              have hbq := Below.chain hbw hwq
              have hbxq := HBX.out.keeps hwq
              go_wp2_with fail
              exact ⟨⟨j + 1, by omega, by go_num, HN, hbq, hbxq⟩, by simp [intOf]; omega⟩
            | false =>
              have HF : Hid (b = false) := hid (by rw [← HE.out]; exact HBad.out (by rw [HX.out, hls]))
              cases hl1 : Op.bytesLess ks[j] ks[p] with
              | true =>
                clear hcl h1 h1d hls hpj h0
                go_wp2_with fail
                refine wp_region_wq (by kernel_rfl) (by kernel_rfl) ?_
                repeat (refine WQ.step (fun K hK => ?_); go_simp; first | (refine hK _ ?_; clear hK K) | (apply Exists.intro; refine ⟨fun W hW => ?_, hK _ ?_⟩; (first | with_reducible rfl | (have zz0 := Below.keeps hW d0; have zz1 := Below.keeps hW d1; have zz2 := Below.keeps hW d2; have zz3 := Below.keeps hW d3; have zz4 := Below.keeps hW d4; have zz5 := Below.keeps hW e0; have zz6 := Below.keeps hW e1; go_simp; first | rfl | exact ⟨rfl, rfl⟩ | (rw [if_neg (by omega)]; exact ⟨rfl, rfl⟩))); clear hK K))
                refine WQ.nil ?_
                intro wq hwq
                clear hp hw
                have hbq := Below.chain hbw hwq
                have hbxq := HBX.out.keeps hwq
                go_wp2_with fail
                go_ret
                exact ⟨by rw [HF.out]; rfl, hbq⟩
              | false =>
                have hl2 : (ks[j] == ks[p]) = true := by rw [beq_iff_eq]; exact less_total hl1 hls
                clear hcl h1 h1d hls hpj h0
                go_wp2_with fail
                refine wp_region_wq (by kernel_rfl) (by kernel_rfl) ?_
                repeat (refine WQ.step (fun K hK => ?_); go_simp; first | (refine hK _ ?_; clear hK K) | (apply Exists.intro; refine ⟨fun W hW => ?_, hK _ ?_⟩; (first | with_reducible rfl | (have zz0 := Below.keeps hW d0; have zz1 := Below.keeps hW d1; have zz2 := Below.keeps hW d2; have zz3 := Below.keeps hW d3; have zz4 := Below.keeps hW d4; have zz5 := Below.keeps hW e0; have zz6 := Below.keeps hW e1; go_simp; first | rfl | exact ⟨rfl, rfl⟩ | (rw [if_neg (by omega)]; exact ⟨rfl, rfl⟩))); clear hK K))
                refine WQ.nil ?_
                intro wq hwq
                clear hp hw
                have hbq := Below.chain hbw hwq
                have hbxq := HBX.out.keeps hwq
                go_wp2_with fail
                go_ret
                exact ⟨by rw [HF.out]; rfl, hbq⟩
      · obtain rfl : j = ks.length := by omega
        have HF : Hid (b = true) := hid (by rw [← HE.out]; have := HA.out; rwa [List.take_length] at this)
        go_wp2_with fail
        go_ret
        exact ⟨by rw [HF.out]; rfl, hbw⟩
  · have q1 : ((ks.length : Int) != (cs.length : Int)) = true := neT (by omega)
    have HE : Hid (b = false) := hid (by rw [← HR.out]; simp [hlen])
    clear hlen HR
    obtain ⟨c0, c1, c2, c3, c4⟩ := HB.out
    go_enter Tryz.func64, Tryz.ntmps64
    go_wp2_with fail
    go_ret
    exact ⟨by rw [HE.out]; rfl, below_new w _⟩
end Go.Proofs.YtnfjlimecoikpaaGreatDoor
