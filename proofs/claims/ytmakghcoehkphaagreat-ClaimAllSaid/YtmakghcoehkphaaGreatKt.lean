/-
  Claims are compared: slices.Equal, slices.Contains. Conditions: the rows lie in memory.
-/
import Derived.Test.YtmakghcoehkphaaGreatQ8ClaimBuilds
import Derived.Test.YtmakghcoehkphaaGreatQ3ClaimBuilds
import Derived.Test.YtmakghcoehkphaaGreatQ2ClaimBuilds
import Derived.BigRegion
namespace Go.Proofs.YtmakghcoehkphaaGreat
open Go.RowKit Go.BigFrame
set_option linter.unusedVariables false
set_option linter.unusedSimpArgs false

theorem guardCl : Tryz.prog.eqGuardType Tryz.prog.depth 34 = false := by kernel_rfl
theorem eqIn_pt9 (a b : ByteArray × Nat) (w : World) : (Op.equalIn 9999 25 (.agg #[.string a.1, .int .u32 a.2]) (.agg #[.string b.1, .int .u32 b.2])).run Tryz.prog w = .ok ((a.1.toList == b.1.toList) && ((a.2 : Int) == b.2)) w := by
  have hS : Tryz.prog.underlying 25 = some (.struct (Tryz.prog.fieldsOf 25)) := by kernel_rfl
  have hp : Tryz.prog.stoodInHeld 25 = false := by kernel_rfl
  rw [show (9999 : Nat) = 9998 + 1 from rfl, run_equalIn_agg w 9998 25 _ _ hS hp]
  simp only [Program.fieldsOf, Tryz.underlying25]
  have u1 := Tryz.underlying9
  have u2 := Tryz.underlying23
  clear hS hp
  go_simp
  by_cases h1 : a.1.toList = b.1.toList <;> by_cases h2 : (a.2 : Int) = b.2 <;> simp [h1, h2]
theorem eqIn_br9 (a b : PBr) (w : World) : (Op.equalIn 9999 32 (.agg #[.int .u16 a.tag, .int .u16 a.delay, .int .u32 a.height]) (.agg #[.int .u16 b.tag, .int .u16 b.delay, .int .u32 b.height])).run Tryz.prog w = .ok (((a.tag : Int) == b.tag) && (((a.delay : Int) == b.delay) && ((a.height : Int) == b.height))) w := by
  have hS : Tryz.prog.underlying 32 = some (.struct (Tryz.prog.fieldsOf 32)) := by kernel_rfl
  have hp : Tryz.prog.stoodInHeld 32 = false := by kernel_rfl
  rw [show (9999 : Nat) = 9998 + 1 from rfl, run_equalIn_agg w 9998 32 _ _ hS hp]
  simp only [Program.fieldsOf, Tryz.underlying32]
  have u1 := Tryz.underlying26
  have u2 := Tryz.underlying23
  clear hS hp
  go_simp
  by_cases h1 : (a.tag : Int) = b.tag <;> by_cases h2 : (a.delay : Int) = b.delay <;> by_cases h3 : (a.height : Int) = b.height <;> simp [h1, h2, h3]
set_option maxHeartbeats 1000000 in
theorem eqIn_cl (x y : PCl) (w : World) : ∃ b : Bool, (∀ w : World, (Op.equalIn 10000 34 (clV x) (clV y)).run Tryz.prog w = .ok b w) ∧ (x = y → b = true) := by
  have hS : Tryz.prog.underlying 34 = some (.struct (Tryz.prog.fieldsOf 34)) := by kernel_rfl
  have hp : Tryz.prog.stoodInHeld 34 = false := by kernel_rfl
  have hP := eqIn_pt9 (x.id, x.idx) (y.id, y.idx)
  have hB := eqIn_br9 x.lock y.lock
  dsimp only at hP
  obtain ⟨p1, hp1⟩ : ∃ p, p = ((x.id.toList == y.id.toList) && ((x.idx : Int) == y.idx)) := ⟨_, rfl⟩
  obtain ⟨p2, hp2⟩ : ∃ p, p = (((x.lock.tag : Int) == y.lock.tag) && (((x.lock.delay : Int) == y.lock.delay) && ((x.lock.height : Int) == y.lock.height))) := ⟨_, rfl⟩
  rw [← hp1] at hP
  rw [← hp2] at hB
  refine ⟨p1 && ((x.val == y.val) && ((x.br == y.br) && (p2 && (x.dead == y.dead)))), fun w => ?_, fun h => by subst h; rw [hp1, hp2]; simp⟩
  clear hp1 hp2
  unfold clV
  rw [show (10000 : Nat) = 9999 + 1 from rfl, run_equalIn_agg w 9999 34 _ _ hS hp]
  simp only [Program.fieldsOf, Tryz.underlying34]
  have u3 := Tryz.underlying3
  have a1 := Tryz.isAgg25
  have a2 := Tryz.isAgg32
  have s1 := Tryz.sizeOf25
  have s2 := Tryz.sizeOf32
  clear hS hp
  go_simp
  cases p1 <;> by_cases h1 : x.val = y.val <;> by_cases h2 : x.br = y.br <;> cases p2 <;> by_cases h3 : x.dead = y.dead <;> simp [h1, h2, h3]
theorem neq_cl (x : PCl) (w : World) : (binOp .neq 34 (clV x) (clV x)).run Tryz.prog w = .ok (.bool false) w := by
  obtain ⟨b, hb, h⟩ := eqIn_cl x x w
  have e := hb w
  rw [h rfl] at e
  unfold clV at e ⊢
  rw [run_neq_struct, e]
  rfl
theorem eql_cl (x y : PCl) : ∃ b : Bool, (∀ w, (binOp .eql 34 (clV x) (clV y)).run Tryz.prog w = .ok (.bool b) w) ∧ (x = y → b = true) := by
  obtain ⟨b, hb, h⟩ := eqIn_cl x y default
  refine ⟨b, fun w => ?_, h⟩
  have e := hb w
  unfold clV at e ⊢
  rw [run_eql_struct, e]
  rfl
set_option maxRecDepth 100000 in
set_option maxHeartbeats 2000000 in
/-- Two rows of the same claims. -/
theorem equalC_any (v1 v2 : Value) (l : List PCl) (w : World) (h1 : SlAt rpCl w v1 l) (h2 : SlAt rpCl w v2 l) : Calls Tryz.prog 25 #[v1, v2] w fun e w' => e = .returned (.bool true) ∧ Below w.heap.size w w' := by
  have HS1 := Lib.hid h1
  have HS2 := Lib.hid h2
  obtain ⟨a, c, rfl, hl1, hl2⟩ := h1.shape
  obtain ⟨a', c', rfl, hl1', hl2'⟩ := h2.shape
  rw [maxLen_eq] at hl2 hl2'
  obtain ⟨n, hn⟩ : ∃ n, n = l.length := ⟨_, rfl⟩
  rw [← hn] at hl1 hl1' HS1 HS2 ⊢
  clear h1 h2 hn
  go_enter Tryz.func25, Tryz.ntmps25
  go_wp2_with fail
  go_loopg [13] n (fun g i wr => ∃ k : Nat, g = n - k ∧ k ≤ n ∧ i = .int .i64 k ∧ Below w.heap.size w wr)
  case atStart => exact ⟨0, rfl, by omega, rfl, Below.refl _ _⟩
  case round =>
    rename World => wo
    obtain ⟨k, hgk, hk, rfl, hb⟩ := hrel
    have HGK := Lib.hid hgk
    have HB := Lib.hid hb
    clear hgk hb
    by_cases hlt : k < n
    · obtain ⟨b, o, x, rfl, hx, -, hcl⟩ := (HS1.out.below HB.out).cl hlt
      obtain ⟨d0, d1, d2, d3, d4, d5, d6, d7⟩ := hcl
      obtain ⟨b', o', y, rfl, hy, -, hcl⟩ := (HS2.out.below HB.out).cl hlt
      rw [hx] at hy
      obtain rfl := Option.some.inj hy
      obtain ⟨y0, y1, y2, y3, y4, y5, y6, y7⟩ := hcl
      have hne := neq_cl x
      unfold clV at hne
      have hg := guardCl
      clear hx hy
      go_upto_region 6 with fail
      go_region
      all_goals
        go_wp2_with fail
        go_roundg (n - (k + 1))
        case measure => have := HGK.out; omega
        case rel => exact ⟨k + 1, rfl, by omega, by go_num, HB.out.drew⟩
    · obtain rfl : n = k := by omega
      go_wp2_with fail
      go_ret
      exact ⟨rfl, HB.out⟩
end Go.Proofs.YtmakghcoehkphaaGreat
