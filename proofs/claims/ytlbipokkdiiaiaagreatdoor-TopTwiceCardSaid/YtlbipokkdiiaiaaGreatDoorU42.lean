/- Lemmas for TopTwice: TopSpeaks. -/
import Derived.Test.YtlbipokkdiiaiaaGreatDoorU38
import Derived.Test.YtlbipokkdiiaiaaGreatDoorU39
import Derived.Test.YtlbipokkdiiaiaaGreatDoorU40
import Derived.Test.YtlbipokkdiiaiaaGreatDoorU41
namespace Go.Proofs.YtlbipokkdiiaiaaGreatDoor
open Go.RowKit Go.Proofs.YtlbipokkdiiaiaaGreatDoor.Exec
noncomputable section
def look : List Entry → FuncId → Array Value → H → Option (Value × H)
 | [], _, _, _ => none
 | e :: r, f, args, h => bif e.fits f args h then some (e.v, bump (e.k - e.next) h) else look r f args h
def hkT : Hook := fun f args h => bif f == 36 then hkS f args h else bif f == 22 || f == 24 || f == 15 then some (look table f args h) else none
theorem look_some {l : List Entry} {f : FuncId} {args : Array Value} {h h' : H} {v : Value} (he : look l f args h = some (v, h')) : ∃ e ∈ l, e.fits f args h = true ∧ e.v = v ∧ bump (e.k - e.next) h = h' := by
 induction l with
 | nil => simp [look] at he
 | cons e r ih =>
   unfold look at he
   cases hf : e.fits f args h with
   | true =>
     rw [hf] at he
     simp only [cond_true, Option.some.injEq, Prod.mk.injEq] at he
     exact ⟨e, by simp, hf, he.1, he.2⟩
   | false =>
     rw [hf] at he
     obtain ⟨x, h1, h2⟩ := ih he
     exact ⟨x, by simp [h1], h2⟩
theorem table_runs : ∀ e ∈ table, e.run = true := by
 intro e he
 simp only [table, List.mem_cons, List.not_mem_nil, or_false] at he
 rcases he with rfl | rfl | rfl | rfl | rfl | rfl | rfl | rfl
 ·exact ent0_run
 ·exact ent1_run
 ·exact ent2_run
 ·exact ent3_run
 ·exact ent4_run
 ·exact ent5_run
 ·exact ent6_run
 ·exact ent7_run
theorem hkT_ok : HookOk Tryz.prog hkT := by
 intro f args h v h' he m W args' ha hw
 unfold hkT at he
 cases hf : f == 36 with
 | true => rw [hf] at he; exact hkS_ok f args h v h' he m W args' ha hw
 | false =>
   rw [hf] at he
   cases hg : (f == 22 || f == 24 || f == 15) with
   | false => rw [hg] at he; simp at he
   | true =>
     rw [hg] at he
     simp only [cond_false, cond_true, Option.some.injEq] at he
     obtain ⟨e, h1, h2, rfl, rfl⟩ := look_some he
     exact e.ok (table_runs e h1) h2 ha hw
def isTrue : Option (Res × H) → Bool
 | some (.val (.bool b), _) => b
 | _ => false
theorem isTrue_spec {r : Option (Res × H)} (h : isTrue r = true) : ∃ h', r = some (.val (.bool true), h') := by
 unfold isTrue at h
 split at h
 ·rename_i b h'; subst h; exact ⟨h', rfl⟩
 ·simp at h
def heap0 : H := { t := .leaf, next := 0, lim := 1048576 }
def bij0 : Bij := { r := fun _ _ => False, gr := fun _ => 0, fn := fun h => h.elim }
theorem rel0 (W : World) : WRel bij0 heap0 W :=
 ⟨fun n o h => by unfold H.get heap0 at h; simp at h, fun _ _ _ _ h => h, fun _ _ h => h.elim, fun _ _ _ h => h.elim, by unfold heap0; decide, by unfold heap0; decide⟩
set_option maxRecDepth 1000000 in
theorem speaks_run : isTrue (go hkT Tryz.prog (aregion hkT Tryz.prog) 2000 (.call 7 #[]) heap0) = true := by kernel_rfl
theorem speaks_any (W : World) : Calls Tryz.prog 7 #[] W fun e W' => e = .returned (.bool true) ∧ Below W.heap.size W W' := by
 obtain ⟨h', hr⟩ := isTrue_spec speaks_run
 have := exec_sound good hkT_ok mixed 2000 hr (m := bij0) (W := W) (args' := #[]) .nil (rel0 W)
 refine callsIn_wide.1 (this.mono fun e W' hq => ?_)
 obtain ⟨v', m', rfl, hv, hs⟩ := hq
 cases hv
 exact ⟨rfl, hs.rest.1, hs.rest.2.1, hs.rest.2.2, hs.size, fun k hk => hs.block k hk fun n hn => hn.elim⟩
end
end Go.Proofs.YtlbipokkdiiaiaaGreatDoor
