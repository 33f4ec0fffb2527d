/-
  kedgelaw23.some: coins of numbers. Conditions: the coins lie in memory.
-/
import Derived.Test.YtelindgnkpfkiaaVh
import Derived.Test.YtelindgnkpfkiaaScr
import Derived.Test.YtelindgnkpfkiaaFit
namespace Go.Proofs.Ytelindgnkpfkiaa
open Go.RowKit Go.BigFrame Go.Maps
set_option linter.unusedVariables false
set_option linter.unusedSimpArgs false

section
variable {P : Program}
/-- 'append(s, x)' of one element that lies in a block of its own. -/
theorem append_row {w : World} {base t ty e size bytes n q : Nat} {i : TypeInfo} {z v : Value} {xs : List Value} (ht : P.underlying t = some (.slice e)) (hi : P.info? e = some i) (hz : i.zero = some z)
    (hsize : i.size = size) (hby : i.bytes = bytes) (hzs : z.cells.size = size) (hown : w.ownsRow base e size v n xs) (cs : Array Value) (hq : w.heap[q]? = some (.cells cs e (0, 0))) (hcs : cs.size = size) (h1 : ∀ u ∈ cs.toList, u.oneCell' = true)
    (hn : n + 1 ≤ maxLen) (hb : (n + 1) * bytes ≤ 140737488355328) (hbase : base ≤ w.heap.size) :
    ∃ a' c' w', (Builtin.append_ #[t, t] ty #[v, .slice (some ⟨q, 0, none⟩) 1 1]).run P w = .ok (.slice a' (n + 1) c') w' ∧
      w'.ownsRow base e size (.slice a' (n + 1) c') (n + 1) (xs ++ cs.toList) ∧ Below base w w' := by
  obtain ⟨v', w', hr, ho, hg, hv⟩ := append_own_src (P := P) w base t t ty e i z size bytes ht hi hz hsize hby hzs v n xs hown (.slice (some ⟨q, 0, none⟩) 1 1) 1 cs.toList
    (Src.ofSlice _ ht ⟨q, 0, none⟩ 1 1 cs.toList (by simp [hcs]) (fun j u hj => by
      rw [Addr.add_lit, Nat.zero_add, cell_at hq]
      simpa using hj) h1) hn hb hbase
  obtain ⟨a', c', rfl, _, _⟩ := ownsRow_shape ho
  exact ⟨a', c', w', hr, ho, (Below.refl base w).grown hg hbase (fun k hk => (hown.lt k hk).1)⟩
end

structure PCo where
  id : Nat
  idx : Nat
  tag : Nat
  val : Int
structure PCo.Ok (x : PCo) : Prop where
  id : x.id < 256
  idx : x.idx < 256
  tag : x.tag < 256
  val : -9223372036854775808 ≤ x.val ∧ x.val ≤ 9223372036854775807
def rpCo : Rp PCo := ⟨4, fun _ cs x => cs = [.int .u8 x.id, .int .u8 x.idx, .int .u8 x.tag, .int .i64 x.val] ∧ x.Ok, fun _ h => h⟩
theorem SlAt.co {w : World} {a : Option Addr} {n c i : Nat} {xs : List PCo} (h : SlAt rpCo w (.slice a n c) xs) (hi : i < n) : ∃ (b o : Nat) (x : PCo), a = some ⟨b, o, none⟩ ∧ xs[i]? = some x ∧ x.Ok ∧
    w.cell? ⟨b, o + i * 4, none⟩ = some (.int .u8 x.id) ∧ w.cell? ⟨b, o + i * 4 + 1, none⟩ = some (.int .u8 x.idx) ∧ w.cell? ⟨b, o + i * 4 + 2, none⟩ = some (.int .u8 x.tag) ∧ w.cell? ⟨b, o + i * 4 + 3, none⟩ = some (.int .i64 x.val) := by
  obtain ⟨b, o, x, cs, h1, h2, h3, h4, h5, h6⟩ := h.at hi
  subst h5
  exact ⟨b, o, x, h1, h2, h6, h4 0 _ rfl, h4 1 _ rfl, h4 2 _ rfl, h4 3 _ rfl⟩
def coinE (c : PCo) : PEn := ⟨idB (c.id % 6 : Nat), c.idx % 2, c.val, scrT (c.tag % 3 + 1), 0⟩
theorem coinE_ok {c : PCo} (h : c.Ok) : (coinE c).Ok := by
  refine ⟨?_, ?_, h.val, ?_, ?_⟩
  · show (idB _).size ≤ maxLen
    rw [idB_size]; decide
  · show c.idx % 2 < _
    omega
  · show (scrT _).size ≤ maxLen
    rw [scrT_size]; decide
  · show (-9223372036854775808 : Int) ≤ 0 ∧ (0 : Int) ≤ _
    omega
def RSo (v : Value) (Y p6 p2 p3 : Nat) (c : PCo) : Nat → Fact
  | 0 => .val fun _ => v
  | 1 => .val fun _ => .pointer (some ⟨Y, 0, none⟩)
  | 2 => .val fun _ => .int .u8 c.id
  | 3 => .val fun _ => .int .u8 p6
  | 4 => .val fun _ => .int .i64 p6
  | 5 => .val fun _ => .string (idB p6)
  | 6 => .val fun _ => .pointer (some ⟨Y, 1, none⟩)
  | 7 => .val fun _ => .int .u8 c.idx
  | 8 => .val fun _ => .int .u8 p2
  | 9 => .val fun _ => .int .u32 p2
  | 10 => .val fun _ => .agg #[.string (idB p6), .int .u32 p2]
  | 11 => .val fun _ => .pointer (some ⟨Y, 3, none⟩)
  | 12 => .val fun _ => .int .i64 c.val
  | 13 => .val fun _ => .pointer (some ⟨Y, 2, none⟩)
  | 14 => .val fun _ => .int .u8 c.tag
  | 15 => .val fun _ => .int .u8 p3
  | 16 => .val fun _ => .int .u16 p3
  | 17 => .val fun _ => .int .u16 (p3 + 1 : Nat)
  | 18 => .val fun _ => .string (scrT (p3 + 1))
  | 19 => .val fun _ => .agg #[.int .i64 c.val, .string (scrT (p3 + 1))]
  | 20 => .val fun _ => .agg #[.int .i64 c.val, .string (scrT (p3 + 1)), .int .i64 0]
  | 21 => .val fun _ => .agg #[.string (idB p6), .int .u32 p2, .int .i64 c.val, .string (scrT (p3 + 1)), .int .i64 0]
  | 22 => .row 1 fun _ => .cells #[.string (idB p6), .int .u32 p2, .int .i64 c.val, .string (scrT (p3 + 1)), .int .i64 0] 63 (0, 0)
  | _ => .val fun _ => undef
def SomeIs (l : List PEn) (w : World) (e : Ending) (w' : World) : Prop := ∃ v, e = .returned v ∧ EnOwn 63 w.heap.size w' v l ∧ Below w.heap.size w w'
set_option maxRecDepth 100000 in
set_option maxHeartbeats 4000000 in
theorem some_any (sl : Value) (l : List PCo) (w : World) (hsl : SlAt rpCo w sl l) : Calls Try.prog 9 #[sl] w (SomeIs ((l.map coinE).take 10) w) := by
  have HSL := Lib.hid hsl
  obtain ⟨a, c, rfl, hl1, hl2⟩ := hsl.shape
  rw [maxLen_eq] at hl2
  obtain ⟨n, hn⟩ : ∃ n, n = l.length := ⟨_, rfl⟩
  rw [← hn] at hl1 HSL ⊢
  have HN := Lib.hid hn
  clear hn hsl
  obtain ⟨mo, hmo⟩ : ∃ mo, mo = min n 10 := ⟨_, rfl⟩
  have hmin : min (n : Int) 10 = (mo : Int) := by omega
  have hmn : mo ≤ n := by omega
  have hm10 : mo ≤ 10 := by omega
  have HTK := Lib.hid (show l.take mo = l.take 10 by rw [hmo, HN.out]; rw [Nat.min_comm, List.take_eq_take_iff]; omega)
  clear hmo
  go_enter Try.func9, Try.ntmps9
  go_wp2_with fail
  go_loopg [3, 12] mo (fun g v i wr => ∃ (k : Nat) (v0 : Value), v = v0 ∧ g = mo - k ∧ k ≤ mo ∧ i = .int .i64 k ∧ Below w.heap.size w wr ∧ EnOwn 63 w.heap.size wr v0 ((l.take k).map coinE))
  case atStart => exact ⟨0, _, rfl, rfl, by omega, rfl, Below.refl _ _, enOwn_nil _ _ _⟩
  case round =>
    rename World => wo
    obtain ⟨k, v0, hv0, hgk, hk, rfl, hb, hown⟩ := hrel
    obtain rfl := hv0.symm
    have HGK := Lib.hid hgk
    have HB := Lib.hid hb
    have HOWN := Lib.hid hown
    clear hgk hb hown
    by_cases hlt : k < mo
    · obtain ⟨sb, so, x, rfl, hx, hxo, d0, d1, d2, d3⟩ := (HSL.out.below HB.out).co (Nat.lt_of_lt_of_le hlt hmn)
      have HX := Lib.hid hx
      have HXO := Lib.hid hxo
      clear hx
      go_upto_region 5 with fail
      have hz := heap_alloc_new wo (.cells #[.int .u8 x.id, .int .u8 x.idx, .int .u8 x.tag, .int .i64 x.val] 82)
      have hal : Below wo.heap.size wo (wo.alloc (.cells #[.int .u8 x.id, .int .u8 x.idx, .int .u8 x.tag, .int .i64 x.val] 82)) := (Below.refl _ _).alloc (Nat.le_refl _) _
      obtain ⟨Y, hY⟩ : ∃ q, q = wo.heap.size := ⟨_, rfl⟩
      rw [← hY] at hz ⊢
      generalize wo.alloc (.cells #[.int .u8 x.id, .int .u8 x.idx, .int .u8 x.tag, .int .i64 x.val] 82) = w1 at *
      have HB1 := Lib.hid (HB.out.trans (hal.mono HB.out.size))
      have HOWN1 := Lib.hid (HOWN.out.below hal)
      have q0 : w1.cell? ⟨Y, 0, none⟩ = some (.int .u8 x.id) := cell_at hz
      have q1 : w1.cell? ⟨Y, 1, none⟩ = some (.int .u8 x.idx) := cell_at hz
      have q2 : w1.cell? ⟨Y, 2, none⟩ = some (.int .u8 x.tag) := cell_at hz
      have q3 : w1.cell? ⟨Y, 3, none⟩ = some (.int .i64 x.val) := cell_at hz
      clear hz hal hY d0 d1 d2 d3
      obtain ⟨p6, hp6⟩ : ∃ p, p = x.id % 6 := ⟨_, rfl⟩
      obtain ⟨p2, hp2⟩ : ∃ p, p = x.idx % 2 := ⟨_, rfl⟩
      obtain ⟨p3, hp3⟩ : ∃ p, p = x.tag % 3 := ⟨_, rfl⟩
      have E3 := Lib.hid (show (x.id : Int).tmod 6 = (p6 : Int) by rw [Int.tmod_eq_emod_of_nonneg (by omega)]; omega)
      have E4 := Lib.hid (show IntKind.i64.wrap (p6 : Int) = (p6 : Int) by rw [IntKind.wrap_i64]; omega)
      have E8 := Lib.hid (show (x.idx : Int).tmod 2 = (p2 : Int) by rw [Int.tmod_eq_emod_of_nonneg (by omega)]; omega)
      have E9 := Lib.hid (show IntKind.u32.wrap (p2 : Int) = (p2 : Int) by rw [IntKind.wrap_u32]; omega)
      have E15 := Lib.hid (show (x.tag : Int).tmod 3 = (p3 : Int) by rw [Int.tmod_eq_emod_of_nonneg (by omega)]; omega)
      have E16 := Lib.hid (show IntKind.u16.wrap (p3 : Int) = (p3 : Int) by rw [IntKind.wrap_u16]; omega)
      have E17 := Lib.hid (show IntKind.u16.wrap ((p3 : Int) + 1) = ((p3 + 1 : Nat) : Int) by rw [IntKind.wrap_u16]; omega)
      have HP3 := Lib.hid (show p3 + 1 < 65536 by omega)
      have HCE := Lib.hid (show coinE x = ⟨idB p6, p2, x.val, scrT (p3 + 1), 0⟩ by unfold coinE; rw [← hp6, ← hp2, ← hp3])
      clear hp6 hp2 hp3 hxo
      refine wp_region_made (RSo v0 Y p6 p2 p3 x) 23 (by kernel_rfl) (by kernel_rfl) (by kernel_rfl) (by kernel_rfl) (by decide) (by kernel_rfl) ?_ ?_
      · intro i o hi ho L xs lo hi' wr hmd hni hpre
        obtain ⟨x0, x1, x2, x3, x4, x5, x6, x7, x8, x9, x10, x11, x12, x13, x14, x15, x16, x17, x18, x19, x20, x21, x22, rfl⟩ : ∃ x0 x1 x2 x3 x4 x5 x6 x7 x8 x9 x10 x11 x12 x13 x14 x15 x16 x17 x18 x19 x20 x21 x22, xs = [x0, x1, x2, x3, x4, x5, x6, x7, x8, x9, x10, x11, x12, x13, x14, x15, x16, x17, x18, x19, x20, x21, x22] := by match xs, hmd.len with | [x0, x1, x2, x3, x4, x5, x6, x7, x8, x9, x10, x11, x12, x13, x14, x15, x16, x17, x18, x19, x20, x21, x22], _ => exact ⟨_, _, _, _, _, _, _, _, _, _, _, _, _, _, _, _, _, _, _, _, _, _, _, rfl⟩
        match i, ho with
        | 0, ho =>
          obtain rfl := Option.some.inj ho
          have kk := fun lx ox ax => @step_pure Try.prog (RSo v0 Y p6 p2 p3 x) lx [x0, x1, x2, x3, x4, x5, x6, x7, x8, x9, x10, x11, x12, x13, x14, x15, x16, x17, x18, x19, x20, x21, x22] ox ax wr 0 (v0)
          refine kk _ _ _ ?_ ?_
          · kernel_rfl
          · exact rfl
        | 1, ho =>
          obtain rfl := Option.some.inj ho
          have kk := fun lx ox ax => @step_pure Try.prog (RSo v0 Y p6 p2 p3 x) lx [x0, x1, x2, x3, x4, x5, x6, x7, x8, x9, x10, x11, x12, x13, x14, x15, x16, x17, x18, x19, x20, x21, x22] ox ax wr 1 (.pointer (some ⟨Y, 0, none⟩))
          refine kk _ _ _ ?_ ?_
          · kernel_rfl
          · exact rfl
        | 2, ho =>
          obtain rfl := Option.some.inj ho
          have h_1 : x1 = .pointer (some ⟨Y, 0, none⟩) := hmd.rel 1 (hpre 1 (by kernel_rfl))
          subst h_1
          have t0 := below_cells hmd.bel _ _ q0
          have kk := fun lx ox ax => @step_pure Try.prog (RSo v0 Y p6 p2 p3 x) lx [x0, (.pointer (some ⟨Y, 0, none⟩)), x2, x3, x4, x5, x6, x7, x8, x9, x10, x11, x12, x13, x14, x15, x16, x17, x18, x19, x20, x21, x22] ox ax wr 2 (.int .u8 x.id)
          refine kk _ _ _ ?_ ?_
          · simp [putAll, execOp, go_sem, t0]
          · exact rfl
        | 3, ho =>
          obtain rfl := Option.some.inj ho
          have h_2 : x2 = .int .u8 x.id := hmd.rel 2 (hpre 2 (by kernel_rfl))
          subst h_2
          have kk := fun lx ox ax => @step_pure Try.prog (RSo v0 Y p6 p2 p3 x) lx [x0, x1, (.int .u8 x.id), x3, x4, x5, x6, x7, x8, x9, x10, x11, x12, x13, x14, x15, x16, x17, x18, x19, x20, x21, x22] ox ax wr 3 (.int .u8 ((x.id : Int).tmod 6))
          refine kk _ _ _ ?_ ?_
          · kernel_rfl
          · exact congrArg (Value.int .u8) E3.out
        | 4, ho =>
          obtain rfl := Option.some.inj ho
          have h_3 : x3 = .int .u8 p6 := hmd.rel 3 (hpre 3 (by kernel_rfl))
          subst h_3
          have kk := fun lx ox ax => @step_pure Try.prog (RSo v0 Y p6 p2 p3 x) lx [x0, x1, x2, (.int .u8 p6), x4, x5, x6, x7, x8, x9, x10, x11, x12, x13, x14, x15, x16, x17, x18, x19, x20, x21, x22] ox ax wr 4 (.int .i64 (IntKind.i64.wrap (p6 : Int)))
          refine kk _ _ _ ?_ ?_
          · kernel_rfl
          · exact congrArg (Value.int .i64) E4.out
        | 5, ho =>
          obtain rfl := Option.some.inj ho
          have h_4 : x4 = .int .i64 p6 := hmd.rel 4 (hpre 4 (by kernel_rfl))
          subst h_4
          have kk := fun lx ox ax => @step_call Try.prog (RSo v0 Y p6 p2 p3 x) lx [x0, x1, x2, x3, (.int .i64 p6), x5, x6, x7, x8, x9, x10, x11, x12, x13, x14, x15, x16, x17, x18, x19, x20, x21, x22] ox ax wr 5 _ _ _ (id_any p6 wr)
          refine kk _ _ _ ?_ ?_
          · kernel_rfl
          · exact fun e w' ⟨he, hb⟩ => ⟨_, he, hb, rfl⟩
        | 6, ho =>
          obtain rfl := Option.some.inj ho
          have kk := fun lx ox ax => @step_pure Try.prog (RSo v0 Y p6 p2 p3 x) lx [x0, x1, x2, x3, x4, x5, x6, x7, x8, x9, x10, x11, x12, x13, x14, x15, x16, x17, x18, x19, x20, x21, x22] ox ax wr 6 (.pointer (some ⟨Y, 1, none⟩))
          refine kk _ _ _ ?_ ?_
          · kernel_rfl
          · exact rfl
        | 7, ho =>
          obtain rfl := Option.some.inj ho
          have h_6 : x6 = .pointer (some ⟨Y, 1, none⟩) := hmd.rel 6 (hpre 6 (by kernel_rfl))
          subst h_6
          have t0 := below_cells hmd.bel _ _ q1
          have kk := fun lx ox ax => @step_pure Try.prog (RSo v0 Y p6 p2 p3 x) lx [x0, x1, x2, x3, x4, x5, (.pointer (some ⟨Y, 1, none⟩)), x7, x8, x9, x10, x11, x12, x13, x14, x15, x16, x17, x18, x19, x20, x21, x22] ox ax wr 7 (.int .u8 x.idx)
          refine kk _ _ _ ?_ ?_
          · simp [putAll, execOp, go_sem, t0]
          · exact rfl
        | 8, ho =>
          obtain rfl := Option.some.inj ho
          have h_7 : x7 = .int .u8 x.idx := hmd.rel 7 (hpre 7 (by kernel_rfl))
          subst h_7
          have kk := fun lx ox ax => @step_pure Try.prog (RSo v0 Y p6 p2 p3 x) lx [x0, x1, x2, x3, x4, x5, x6, (.int .u8 x.idx), x8, x9, x10, x11, x12, x13, x14, x15, x16, x17, x18, x19, x20, x21, x22] ox ax wr 8 (.int .u8 ((x.idx : Int).tmod 2))
          refine kk _ _ _ ?_ ?_
          · kernel_rfl
          · exact congrArg (Value.int .u8) E8.out
        | 9, ho =>
          obtain rfl := Option.some.inj ho
          have h_8 : x8 = .int .u8 p2 := hmd.rel 8 (hpre 8 (by kernel_rfl))
          subst h_8
          have kk := fun lx ox ax => @step_pure Try.prog (RSo v0 Y p6 p2 p3 x) lx [x0, x1, x2, x3, x4, x5, x6, x7, (.int .u8 p2), x9, x10, x11, x12, x13, x14, x15, x16, x17, x18, x19, x20, x21, x22] ox ax wr 9 (.int .u32 (IntKind.u32.wrap (p2 : Int)))
          refine kk _ _ _ ?_ ?_
          · kernel_rfl
          · exact congrArg (Value.int .u32) E9.out
        | 10, ho =>
          obtain rfl := Option.some.inj ho
          have h_5 : x5 = .string (idB p6) := hmd.rel 5 (hpre 5 (by kernel_rfl))
          subst h_5
          have h_9 : x9 = .int .u32 p2 := hmd.rel 9 (hpre 9 (by kernel_rfl))
          subst h_9
          have kk := fun lx ox ax => @step_pure Try.prog (RSo v0 Y p6 p2 p3 x) lx [x0, x1, x2, x3, x4, (.string (idB p6)), x6, x7, x8, (.int .u32 p2), x10, x11, x12, x13, x14, x15, x16, x17, x18, x19, x20, x21, x22] ox ax wr 10 (.agg #[.string (idB p6), .int .u32 p2])
          refine kk _ _ _ ?_ ?_
          · kernel_rfl
          · exact rfl
        | 11, ho =>
          obtain rfl := Option.some.inj ho
          have kk := fun lx ox ax => @step_pure Try.prog (RSo v0 Y p6 p2 p3 x) lx [x0, x1, x2, x3, x4, x5, x6, x7, x8, x9, x10, x11, x12, x13, x14, x15, x16, x17, x18, x19, x20, x21, x22] ox ax wr 11 (.pointer (some ⟨Y, 3, none⟩))
          refine kk _ _ _ ?_ ?_
          · kernel_rfl
          · exact rfl
        | 12, ho =>
          obtain rfl := Option.some.inj ho
          have h_11 : x11 = .pointer (some ⟨Y, 3, none⟩) := hmd.rel 11 (hpre 11 (by kernel_rfl))
          subst h_11
          have t0 := below_cells hmd.bel _ _ q3
          have kk := fun lx ox ax => @step_pure Try.prog (RSo v0 Y p6 p2 p3 x) lx [x0, x1, x2, x3, x4, x5, x6, x7, x8, x9, x10, (.pointer (some ⟨Y, 3, none⟩)), x12, x13, x14, x15, x16, x17, x18, x19, x20, x21, x22] ox ax wr 12 (.int .i64 x.val)
          refine kk _ _ _ ?_ ?_
          · simp [putAll, execOp, go_sem, t0]
          · exact rfl
        | 13, ho =>
          obtain rfl := Option.some.inj ho
          have kk := fun lx ox ax => @step_pure Try.prog (RSo v0 Y p6 p2 p3 x) lx [x0, x1, x2, x3, x4, x5, x6, x7, x8, x9, x10, x11, x12, x13, x14, x15, x16, x17, x18, x19, x20, x21, x22] ox ax wr 13 (.pointer (some ⟨Y, 2, none⟩))
          refine kk _ _ _ ?_ ?_
          · kernel_rfl
          · exact rfl
        | 14, ho =>
          obtain rfl := Option.some.inj ho
          have h_13 : x13 = .pointer (some ⟨Y, 2, none⟩) := hmd.rel 13 (hpre 13 (by kernel_rfl))
          subst h_13
          have t0 := below_cells hmd.bel _ _ q2
          have kk := fun lx ox ax => @step_pure Try.prog (RSo v0 Y p6 p2 p3 x) lx [x0, x1, x2, x3, x4, x5, x6, x7, x8, x9, x10, x11, x12, (.pointer (some ⟨Y, 2, none⟩)), x14, x15, x16, x17, x18, x19, x20, x21, x22] ox ax wr 14 (.int .u8 x.tag)
          refine kk _ _ _ ?_ ?_
          · simp [putAll, execOp, go_sem, t0]
          · exact rfl
        | 15, ho =>
          obtain rfl := Option.some.inj ho
          have h_14 : x14 = .int .u8 x.tag := hmd.rel 14 (hpre 14 (by kernel_rfl))
          subst h_14
          have kk := fun lx ox ax => @step_pure Try.prog (RSo v0 Y p6 p2 p3 x) lx [x0, x1, x2, x3, x4, x5, x6, x7, x8, x9, x10, x11, x12, x13, (.int .u8 x.tag), x15, x16, x17, x18, x19, x20, x21, x22] ox ax wr 15 (.int .u8 ((x.tag : Int).tmod 3))
          refine kk _ _ _ ?_ ?_
          · kernel_rfl
          · exact congrArg (Value.int .u8) E15.out
        | 16, ho =>
          obtain rfl := Option.some.inj ho
          have h_15 : x15 = .int .u8 p3 := hmd.rel 15 (hpre 15 (by kernel_rfl))
          subst h_15
          have kk := fun lx ox ax => @step_pure Try.prog (RSo v0 Y p6 p2 p3 x) lx [x0, x1, x2, x3, x4, x5, x6, x7, x8, x9, x10, x11, x12, x13, x14, (.int .u8 p3), x16, x17, x18, x19, x20, x21, x22] ox ax wr 16 (.int .u16 (IntKind.u16.wrap (p3 : Int)))
          refine kk _ _ _ ?_ ?_
          · kernel_rfl
          · exact congrArg (Value.int .u16) E16.out
        | 17, ho =>
          obtain rfl := Option.some.inj ho
          have h_16 : x16 = .int .u16 p3 := hmd.rel 16 (hpre 16 (by kernel_rfl))
          subst h_16
          have kk := fun lx ox ax => @step_pure Try.prog (RSo v0 Y p6 p2 p3 x) lx [x0, x1, x2, x3, x4, x5, x6, x7, x8, x9, x10, x11, x12, x13, x14, x15, (.int .u16 p3), x17, x18, x19, x20, x21, x22] ox ax wr 17 (.int .u16 (IntKind.u16.wrap ((p3 : Int) + 1)))
          refine kk _ _ _ ?_ ?_
          · kernel_rfl
          · exact congrArg (Value.int .u16) E17.out
        | 18, ho =>
          obtain rfl := Option.some.inj ho
          have h_17 : x17 = .int .u16 (p3 + 1 : Nat) := hmd.rel 17 (hpre 17 (by kernel_rfl))
          subst h_17
          have kk := fun lx ox ax => @step_call Try.prog (RSo v0 Y p6 p2 p3 x) lx [x0, x1, x2, x3, x4, x5, x6, x7, x8, x9, x10, x11, x12, x13, x14, x15, x16, (.int .u16 (p3 + 1 : Nat)), x18, x19, x20, x21, x22] ox ax wr 18 _ _ _ (rscript_any (p3 + 1) HP3.out wr)
          refine kk _ _ _ ?_ ?_
          · kernel_rfl
          · exact fun e w' ⟨he, hb⟩ => ⟨_, he, hb, rfl⟩
        | 19, ho =>
          obtain rfl := Option.some.inj ho
          have h_12 : x12 = .int .i64 x.val := hmd.rel 12 (hpre 12 (by kernel_rfl))
          subst h_12
          have h_18 : x18 = .string (scrT (p3 + 1)) := hmd.rel 18 (hpre 18 (by kernel_rfl))
          subst h_18
          have kk := fun lx ox ax => @step_pure Try.prog (RSo v0 Y p6 p2 p3 x) lx [x0, x1, x2, x3, x4, x5, x6, x7, x8, x9, x10, x11, (.int .i64 x.val), x13, x14, x15, x16, x17, (.string (scrT (p3 + 1))), x19, x20, x21, x22] ox ax wr 19 (.agg #[.int .i64 x.val, .string (scrT (p3 + 1))])
          refine kk _ _ _ ?_ ?_
          · kernel_rfl
          · exact rfl
        | 20, ho =>
          obtain rfl := Option.some.inj ho
          have h_19 : x19 = .agg #[.int .i64 x.val, .string (scrT (p3 + 1))] := hmd.rel 19 (hpre 19 (by kernel_rfl))
          subst h_19
          have kk := fun lx ox ax => @step_pure Try.prog (RSo v0 Y p6 p2 p3 x) lx [x0, x1, x2, x3, x4, x5, x6, x7, x8, x9, x10, x11, x12, x13, x14, x15, x16, x17, x18, (.agg #[.int .i64 x.val, .string (scrT (p3 + 1))]), x20, x21, x22] ox ax wr 20 (.agg #[.int .i64 x.val, .string (scrT (p3 + 1)), .int .i64 0])
          refine kk _ _ _ ?_ ?_
          · kernel_rfl
          · exact rfl
        | 21, ho =>
          obtain rfl := Option.some.inj ho
          have h_10 : x10 = .agg #[.string (idB p6), .int .u32 p2] := hmd.rel 10 (hpre 10 (by kernel_rfl))
          subst h_10
          have h_20 : x20 = .agg #[.int .i64 x.val, .string (scrT (p3 + 1)), .int .i64 0] := hmd.rel 20 (hpre 20 (by kernel_rfl))
          subst h_20
          have kk := fun lx ox ax => @step_pure Try.prog (RSo v0 Y p6 p2 p3 x) lx [x0, x1, x2, x3, x4, x5, x6, x7, x8, x9, (.agg #[.string (idB p6), .int .u32 p2]), x11, x12, x13, x14, x15, x16, x17, x18, x19, (.agg #[.int .i64 x.val, .string (scrT (p3 + 1)), .int .i64 0]), x21, x22] ox ax wr 21 (.agg #[.string (idB p6), .int .u32 p2, .int .i64 x.val, .string (scrT (p3 + 1)), .int .i64 0])
          refine kk _ _ _ ?_ ?_
          · kernel_rfl
          · exact rfl
        | 22, ho =>
          obtain rfl := Option.some.inj ho
          have h_21 : x21 = .agg #[.string (idB p6), .int .u32 p2, .int .i64 x.val, .string (scrT (p3 + 1)), .int .i64 0] := hmd.rel 21 (hpre 21 (by kernel_rfl))
          subst h_21
          have kk := fun lx ox ax => @step_new Try.prog (RSo v0 Y p6 p2 p3 x) lx [x0, x1, x2, x3, x4, x5, x6, x7, x8, x9, x10, x11, x12, x13, x14, x15, x16, x17, x18, x19, x20, (.agg #[.string (idB p6), .int .u32 p2, .int .i64 x.val, .string (scrT (p3 + 1)), .int .i64 0]), x22] ox ax wr 22 (.slice (some ⟨wr.heap.size, 0, none⟩) 1 1) (.cells #[.string (idB p6), .int .u32 p2, .int .i64 x.val, .string (scrT (p3 + 1)), .int .i64 0] 63)
          refine kk _ _ _ ?_ ?_
          · kernel_rfl
          · exact ⟨_, Nat.le_refl _, by simp, rfl, heap_alloc_new wr _⟩
        | q + 23, ho => omega
      · intro xs lo hi wr hmd
        obtain ⟨x0, x1, x2, x3, x4, x5, x6, x7, x8, x9, x10, x11, x12, x13, x14, x15, x16, x17, x18, x19, x20, x21, x22, rfl⟩ : ∃ x0 x1 x2 x3 x4 x5 x6 x7 x8 x9 x10 x11 x12 x13 x14 x15 x16 x17 x18 x19 x20 x21 x22, xs = [x0, x1, x2, x3, x4, x5, x6, x7, x8, x9, x10, x11, x12, x13, x14, x15, x16, x17, x18, x19, x20, x21, x22] := by match xs, hmd.len with | [x0, x1, x2, x3, x4, x5, x6, x7, x8, x9, x10, x11, x12, x13, x14, x15, x16, x17, x18, x19, x20, x21, x22], _ => exact ⟨_, _, _, _, _, _, _, _, _, _, _, _, _, _, _, _, _, _, _, _, _, _, _, rfl⟩
        simp only [putAll]
        change wpList _ _ _ (_ :: _ :: []) _ _
        have e0 : x0 = v0 := hmd.rel 0 (by decide)
        obtain ⟨pb, lb, -, hpb, gpb⟩ : ∃ b, lo 22 ≤ b ∧ b < hi 22 ∧ x22 = .slice (some ⟨b, 0, none⟩) 1 1 ∧ wr.heap[b]? = some (.cells #[.string (idB p6), .int .u32 p2, .int .i64 x.val, .string (scrT (p3 + 1)), .int .i64 0] 63 (0, 0)) := hmd.rel 22 (by decide)
        subst e0 hpb
        have HB2 := Lib.hid (HB1.out.trans (hmd.bel.mono HB1.out.size))
        have hown2 := HOWN1.out.below hmd.bel
        have hlk : ((l.take k).map coinE).length = k := by rw [List.length_map, List.length_take, ← HN.out]; omega
        obtain ⟨i0, hi, hz0, hz1, hz2⟩ := info_parts info_ren
        obtain ⟨a2, c2, w2, hrun, hown3, hb2⟩ := append_row (P := Try.prog) Try.underlying31 hi hz0 hz1 hz2 rfl hown2.row #[.string (idB p6), .int .u32 p2, .int .i64 x.val, .string (scrT (p3 + 1)), .int .i64 0] gpb rfl (by simp [Value.oneCell']) (by rw [maxLen_eq]; omega) (by omega) (by have := HB2.out.size; omega) (ty := 31)
        have HO2 := Lib.hid (show EnOwn 63 w.heap.size w2 (.slice a2 (k + 1) c2) ((l.take (k + 1)).map coinE) from ⟨by
          have e : ensCells ((l.take (k + 1)).map coinE) = ensCells ((l.take k).map coinE) ++ enRow (coinE x) := by rw [take_snoc HX.out]; simp [ensCells]
          have e2 : ((l.take (k + 1)).map coinE).length = k + 1 := by rw [List.length_map, List.length_take, ← HN.out]; omega
          rw [e, e2, HCE.out]
          rw [hlk] at hown3
          exact hown3, fun y hy => by
          rw [take_snoc HX.out, List.map_append] at hy
          rcases List.mem_append.1 hy with h | h
          · exact HOWN1.out.ok y h
          · obtain rfl := List.mem_singleton.1 h
            exact coinE_ok HXO.out⟩)
        have HB3 := Lib.hid (HB2.out.trans hb2)
        rw [hlk] at hrun
        obtain ⟨av, cv, rfl, -, -⟩ := ownsRow_shape hown2.row
        have HR := Lib.hid hrun
        clear hrun hown3 hb2 hi hz0 hz1 hz2 hown2 i0 hmd gpb
        refine wpList_append_run ?_ (.tmp 16) (.tmp 38) 31 31 ?_ ?_ ?_ HR.out ?_
        · rfl
        · rfl
        · kernel_rfl
        · kernel_rfl
        go_wp2_with fail
        go_roundg (mo - (k + 1))
        case measure => have := HGK.out; omega
        case rel => exact ⟨k + 1, _, rfl, rfl, by omega, by go_num, HB3.out, HO2.out⟩
    · obtain rfl : k = mo := by omega
      have HF := Lib.hid (show SomeIs ((l.map coinE).take 10) w (.returned v0) wo from ⟨_, rfl, by have h := HOWN.out; rw [HTK.out, List.map_take] at h; exact h, HB.out⟩)
      go_wp2_with fail
      go_ret
      exact HF.out
end Go.Proofs.Ytelindgnkpfkiaa
