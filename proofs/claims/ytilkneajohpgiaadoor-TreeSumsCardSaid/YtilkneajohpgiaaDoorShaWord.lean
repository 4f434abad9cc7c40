/- The walks of the document's word and block. -/
import Derived.Test.YtilkneajohpgiaaDoorShaTurn
import Derived.Test.YtilkneajohpgiaaDoorBytesOwn
import Derived.Test.YtilkneajohpgiaaDoorQuietTail
import Derived.Deep.AppendLies
import Derived.Deep.RegionWith
import Derived.Deep.DeepCutAuto
namespace Go.Proofs.YtilkneajohpgiaaDoor
set_option maxRecDepth 100000
open Go.RowKit

def wordCells (ws : List Int) : List Value := ws.map (.int .u32)
theorem wordCells_len (ws : List Int) : (wordCells ws).length = ws.length := by simp [wordCells]
theorem wordCells_get (ws : List Int) (k : Nat) (h : k < ws.length) : (wordCells ws)[k]? = some (.int .u32 (ws.getD k 0)) := by simp [wordCells, h]
theorem wordCells_app (a b : List Int) : wordCells (a ++ b) = wordCells a ++ wordCells b := by simp [wordCells]
theorem wordCells_one (ws : List Int) : ∀ u ∈ wordCells ws, u.oneCell' = true := by
  intro u hu
  simp only [wordCells, List.mem_map] at hu
  obtain ⟨s, _, rfl⟩ := hu; rfl
theorem u32_info : (Tryd.prog.info? 58).map (fun i => (i.zero, i.size, i.bytes)) = some (some (.int .u32 0), 1, 4) := by kernel_rfl
set_option maxHeartbeats 400000 in
theorem rword_any (g o cap : Nat) (a b c d : Int) (w : World) (h0 : w.cell? ⟨g, o, none⟩ = some (.int .u8 a)) (h1 : w.cell? ⟨g, o + 1, none⟩ = some (.int .u8 b)) (h2 : w.cell? ⟨g, o + 2, none⟩ = some (.int .u8 c)) (h3 : w.cell? ⟨g, o + 3, none⟩ = some (.int .u8 d))
    (ha : 0 ≤ a ∧ a < 256) (hb : 0 ≤ b ∧ b < 256) (hcc : 0 ≤ c ∧ c < 256) (hd : 0 ≤ d ∧ d < 256) :
    Calls Tryd.prog 40 #[.slice (some ⟨g, o, none⟩) 4 cap] w fun e w' => e = .returned (.int .u32 (wordI a b c d)) ∧ Drawn w w' := by
  go_enter Tryd.func40, Tryd.ntmps40
  go_wp2_with fail
  any_goals go_quiet (fail)
  any_goals go_wp2_with fail
  go_ret
  exact ⟨rfl, _, rfl⟩
set_option maxHeartbeats 400000 in
theorem rks_any (w : World) : Calls Tryd.prog 39 #[] w fun e w' => ∃ v, e = .returned v ∧ SliceAt w' 1 v 64 (wordCells shaK) ∧ Below w.heap.size w w' := by
  go_enter Tryd.func39, Tryd.ntmps39
  go_wp2_with fail
  go_ret
  refine ⟨_, rfl, ⟨rfl, _, _, rfl, Nat.le_refl _, by unfold maxLen; omega, fun h => (by cases h), fun _ => ⟨w.heap.size, 0, rfl, by simp, fun j u hu => ?_⟩⟩, below_new _ _⟩
  rw [Nat.zero_add, World.cell?_alloc_mark, ← Array.getElem?_toList]
  exact hu
theorem SliceAt.words {w : World} {v : Value} {n : Nat} {ws : List Int} (h : SliceAt w 1 v n (wordCells ws)) (hp : 0 < ws.length) : n = ws.length ∧ ∃ b off c, v = .slice (some ⟨b, off, none⟩) ws.length c ∧ ws.length ≤ c ∧ c ≤ maxLen ∧ b < w.heap.size ∧
    ∀ j, j < ws.length → w.cell? ⟨b, off + j, none⟩ = some (.int .u32 (ws.getD j 0)) := by
  obtain ⟨hl, a, c, rfl, hc, hm, -, hx⟩ := h
  have hn : n = ws.length := by rw [wordCells_len] at hl; omega
  subst hn
  obtain ⟨b, off, rfl, hb, hcl⟩ := hx (by intro e; have := wordCells_len ws; rw [e] at this; simp at this; omega)
  exact ⟨rfl, b, off, c, rfl, hc, hm, hb, fun j hj => hcl j _ (wordCells_get ws j hj)⟩
theorem SliceAt.bytes {w : World} {v : Value} {n : Nat} {l : List UInt8} (h : SliceAt w 1 v n (Lib.byteCells l)) (hp : 0 < l.length) : n = l.length ∧ ∃ b off c, v = .slice (some ⟨b, off, none⟩) l.length c ∧ l.length ≤ c ∧ c ≤ maxLen ∧ b < w.heap.size ∧
    ∀ j, j < l.length → w.cell? ⟨b, off + j, none⟩ = some (.int .u8 (byteAt l j)) := by
  obtain ⟨hl, a, c, rfl, hc, hm, -, hx⟩ := h
  have hn : n = l.length := by rw [byteCells_len] at hl; omega
  subst hn
  obtain ⟨b, off, rfl, hb, hcl⟩ := hx (by intro e; have := byteCells_len l; rw [e] at this; simp at this; omega)
  refine ⟨rfl, b, off, c, rfl, hc, hm, hb, fun j hj => ?_⟩
  rw [hcl j _ (byteCells_get l j hj)]
  simp [byteAt, hj]
theorem byteAt_in (l : List UInt8) (j : Nat) : 0 ≤ byteAt l j ∧ byteAt l j < 256 := by
  unfold byteAt
  have := (l.getD j 0).toNat_lt
  omega
theorem owns_slice {w : World} {base size : Nat} {e : TypeId} {v : Value} {n : Nat} {xs : List Value} (h : w.ownsRow base e size v n xs) : ∃ a m c, v = Value.slice a m c := by
  rcases h.2 with ⟨e, _⟩ | ⟨g, c, _, e, _⟩
  · exact ⟨_, _, _, e⟩
  · exact ⟨_, _, _, e⟩
end Go.Proofs.YtilkneajohpgiaaDoor
