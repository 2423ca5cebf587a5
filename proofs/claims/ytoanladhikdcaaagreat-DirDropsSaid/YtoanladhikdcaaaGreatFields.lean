/-
  inode.fields: the twelve fields of an inode, one by one.
-/
import Derived.Test.YtoanladhikdcaaaGreatInfra
import Derived.Test.YtoanladhikdcaaaGreatNumVol
import Derived.BigRegionIn
import Derived.RegionIn
namespace Go.Proofs.YtoanladhikdcaaaGreat
open Go.RowKit Go.Shelf
set_option linter.unusedVariables false
set_option linter.unusedSimpArgs false
set_option maxRecDepth 100000
attribute [local go_sem] Oper.semAt_some
/-- how many bytes a field has -/
def fsz (i : Fin 12) : Nat := [1, 1, 2, 4, 2, 2, 2, 2, 2, 2, 2, 2].getD i.1 0
/-- which cell of an inode it is -/
def fof (i : Fin 12) : Nat := [0, 2, 1, 3, 4, 5, 6, 7, 8, 9, 10, 11].getD i.1 0
def fieldV (xb : Nat) (i : Fin 12) : Value := .agg #[.int .i64 (fsz i : Nat), .pointer (some ⟨xb, fof i, none⟩)]
def allF : List (Fin 12) := [0, 1, 2, 3, 4, 5, 6, 7, 8, 9, 10, 11]
/-- the types whose blocks the iterator reads -/
def keepTy (t : TypeId) : Bool := t == 106 || t == 103
set_option maxHeartbeats 4000000 in
theorem fields_stops (n : Nat) (hn : 1 ≤ n) (Bn xb : Nat) (w : World) (hB : Blk w Bn 103 #[.pointer (some ⟨xb, 0, none⟩)]) :
    SeqStopsK Fence.wide n Tryz.prog 86 #[.pointer (some ⟨Bn, 0, none⟩)] (fun i : Fin 12 => #[fieldV xb i]) (KeepT keepTy) (· = allF) (fun _ => True) 12 w := fun l J Jx W hW hJ hJx hY h0 => by
  have hBk : Blk W Bn 103 #[.pointer (some ⟨xb, 0, none⟩)] := hB.below hW hB.lt
  have HBk := Lib.hid hBk
  have hBW : W.cell? ⟨Bn, 0, none⟩ = some (.pointer (some ⟨xb, 0, none⟩)) := hBk.cell 0 rfl
  have hsz := hW.size
  have HY := Lib.hid hY
  have HJ : Hid (∀ s A B, J s A → A.grownBy B none → J s B) := fun s A B hs hg => hJ s A B none hs hg (fun r e => by cases e)
  have H0 := Lib.hid h0
  clear hY hJ hJx h0 hB hW hBk
  refine callsIn_of_wp Tryz.func86 rfl trivial ?_
  simp only [Tryz.ntmps86, List.size_toArray, List.length_cons, List.length_nil, Nat.reduceAdd, Nat.reduceSub, Array.replicate_succ, Array.replicate_zero, List.push_toArray, List.append_toArray, List.nil_append, List.cons_append]
  gi_wp2
  gi_region
  generalize hWs : World.drew _ = Ws
  have G : Hid (Blk Ws W.heap.size 106 #[.int .i64 1, .pointer (some ⟨xb, 0, none⟩), .int .i64 1, .pointer (some ⟨xb, 2, none⟩), .int .i64 2, .pointer (some ⟨xb, 1, none⟩), .int .i64 4, .pointer (some ⟨xb, 3, none⟩)]) := hWs ▸ (Blk.new W _ _).drew
  have J1 : Hid (J [] Ws) := hWs ▸ HJ.out _ _ _ (HJ.out _ _ _ H0.out (World.grownBy_alloc W _ none)) (only_drew (World.grownBy.refl _ none))
  have C1 : Hid (Blk Ws Bn 103 #[.pointer (some ⟨xb, 0, none⟩)]) := hWs ▸ (HBk.out.alloc _).drew
  clear hWs hBW H0 hsz HBk
  generalize W.heap.size = sb at *
  gi_wp2
  gi_loopw [4, 24] (fun _ i wr => ∃ k : Nat, k ≤ 4 ∧ i = .int .i64 k ∧ Hid (J (allF.take k) wr) ∧ Hid (KeepT keepTy Ws wr)) (fun _ i _ => 4 - (intOf i).toNat)
  case atStart => exact ⟨0, by omega, rfl, J1, Lib.hid (KeepT.refl _ _)⟩
  case round =>
    obtain ⟨k, hk, rfl, JK, KK⟩ := hrel
    by_cases hlt : k < 4
    · have hk4 : k = 0 ∨ k = 1 ∨ k = 2 ∨ k = 3 := by omega
      rcases hk4 with rfl | rfl | rfl | rfl
      · obtain ⟨fn, tmps, assign, body, hy0, hR⟩ := HY.out (allF.take 0) 0 (wr.alloc (.cells #[.int .i64 1, .pointer (some ⟨xb, 0, none⟩)] 106)) (HJ.out _ _ _ JK.out (World.grownBy_alloc _ _ none)) (by decide)
        have hy : (Instr.yield l #[.agg #[.int .i64 1, .pointer (some ⟨xb, 0, none⟩)]]).run Tryz.prog (wr.alloc (.cells #[.int .i64 1, .pointer (some ⟨xb, 0, none⟩)] 106)) = .ok (.round l fn tmps assign body) (wr.alloc (.cells #[.int .i64 1, .pointer (some ⟨xb, 0, none⟩)] 106)) := hy0
        have HR := Lib.hid hR
        clear hR hy0
        have c0 : wr.cell? ⟨sb, 0, none⟩ = some (.int .i64 1) := (KK.out _ _ _ rfl G.out).cell 0 rfl
        have c1 : wr.cell? ⟨sb, 1, none⟩ = some (.pointer (some ⟨xb, 0, none⟩)) := (KK.out _ _ _ rfl G.out).cell 1 rfl
        gi_wp2
        refine HR.out.mono ?_
        rintro e W3 (⟨rfl, hJ3, hk3⟩ | ⟨rfl, hJx3⟩)
        · have J3 : Hid (J (allF.take (0 + 1)) W3) := hJ3
          have K3 := Lib.hid (KK.out.trans ((KeepT.alloc _ _).trans hk3))
          clear hJ3 hk3 hy
          gi_wp2
          go_roundw
          case rel => exact ⟨0 + 1, by omega, rfl, J3, K3⟩
          case measure => simp [intOf]
        · clear hy
          gi_wp2
          refine bodyPost_ret (results_none rfl _ _ _) rfl ?_
          exact ⟨⟨_, rfl⟩, .inr ⟨_, trivial, hJx3⟩⟩
      · obtain ⟨fn, tmps, assign, body, hy0, hR⟩ := HY.out (allF.take 1) 1 (wr.alloc (.cells #[.int .i64 1, .pointer (some ⟨xb, 2, none⟩)] 106)) (HJ.out _ _ _ JK.out (World.grownBy_alloc _ _ none)) (by decide)
        have hy : (Instr.yield l #[.agg #[.int .i64 1, .pointer (some ⟨xb, 2, none⟩)]]).run Tryz.prog (wr.alloc (.cells #[.int .i64 1, .pointer (some ⟨xb, 2, none⟩)] 106)) = .ok (.round l fn tmps assign body) (wr.alloc (.cells #[.int .i64 1, .pointer (some ⟨xb, 2, none⟩)] 106)) := hy0
        have HR := Lib.hid hR
        clear hR hy0
        have c0 : wr.cell? ⟨sb, 2, none⟩ = some (.int .i64 1) := (KK.out _ _ _ rfl G.out).cell 2 rfl
        have c1 : wr.cell? ⟨sb, 3, none⟩ = some (.pointer (some ⟨xb, 2, none⟩)) := (KK.out _ _ _ rfl G.out).cell 3 rfl
        gi_wp2
        refine HR.out.mono ?_
        rintro e W3 (⟨rfl, hJ3, hk3⟩ | ⟨rfl, hJx3⟩)
        · have J3 : Hid (J (allF.take (1 + 1)) W3) := hJ3
          have K3 := Lib.hid (KK.out.trans ((KeepT.alloc _ _).trans hk3))
          clear hJ3 hk3 hy
          gi_wp2
          go_roundw
          case rel => exact ⟨1 + 1, by omega, rfl, J3, K3⟩
          case measure => simp [intOf]
        · clear hy
          gi_wp2
          refine bodyPost_ret (results_none rfl _ _ _) rfl ?_
          exact ⟨⟨_, rfl⟩, .inr ⟨_, trivial, hJx3⟩⟩
      · obtain ⟨fn, tmps, assign, body, hy0, hR⟩ := HY.out (allF.take 2) 2 (wr.alloc (.cells #[.int .i64 2, .pointer (some ⟨xb, 1, none⟩)] 106)) (HJ.out _ _ _ JK.out (World.grownBy_alloc _ _ none)) (by decide)
        have hy : (Instr.yield l #[.agg #[.int .i64 2, .pointer (some ⟨xb, 1, none⟩)]]).run Tryz.prog (wr.alloc (.cells #[.int .i64 2, .pointer (some ⟨xb, 1, none⟩)] 106)) = .ok (.round l fn tmps assign body) (wr.alloc (.cells #[.int .i64 2, .pointer (some ⟨xb, 1, none⟩)] 106)) := hy0
        have HR := Lib.hid hR
        clear hR hy0
        have c0 : wr.cell? ⟨sb, 4, none⟩ = some (.int .i64 2) := (KK.out _ _ _ rfl G.out).cell 4 rfl
        have c1 : wr.cell? ⟨sb, 5, none⟩ = some (.pointer (some ⟨xb, 1, none⟩)) := (KK.out _ _ _ rfl G.out).cell 5 rfl
        gi_wp2
        refine HR.out.mono ?_
        rintro e W3 (⟨rfl, hJ3, hk3⟩ | ⟨rfl, hJx3⟩)
        · have J3 : Hid (J (allF.take (2 + 1)) W3) := hJ3
          have K3 := Lib.hid (KK.out.trans ((KeepT.alloc _ _).trans hk3))
          clear hJ3 hk3 hy
          gi_wp2
          go_roundw
          case rel => exact ⟨2 + 1, by omega, rfl, J3, K3⟩
          case measure => simp [intOf]
        · clear hy
          gi_wp2
          refine bodyPost_ret (results_none rfl _ _ _) rfl ?_
          exact ⟨⟨_, rfl⟩, .inr ⟨_, trivial, hJx3⟩⟩
      · obtain ⟨fn, tmps, assign, body, hy0, hR⟩ := HY.out (allF.take 3) 3 (wr.alloc (.cells #[.int .i64 4, .pointer (some ⟨xb, 3, none⟩)] 106)) (HJ.out _ _ _ JK.out (World.grownBy_alloc _ _ none)) (by decide)
        have hy : (Instr.yield l #[.agg #[.int .i64 4, .pointer (some ⟨xb, 3, none⟩)]]).run Tryz.prog (wr.alloc (.cells #[.int .i64 4, .pointer (some ⟨xb, 3, none⟩)] 106)) = .ok (.round l fn tmps assign body) (wr.alloc (.cells #[.int .i64 4, .pointer (some ⟨xb, 3, none⟩)] 106)) := hy0
        have HR := Lib.hid hR
        clear hR hy0
        have c0 : wr.cell? ⟨sb, 6, none⟩ = some (.int .i64 4) := (KK.out _ _ _ rfl G.out).cell 6 rfl
        have c1 : wr.cell? ⟨sb, 7, none⟩ = some (.pointer (some ⟨xb, 3, none⟩)) := (KK.out _ _ _ rfl G.out).cell 7 rfl
        gi_wp2
        refine HR.out.mono ?_
        rintro e W3 (⟨rfl, hJ3, hk3⟩ | ⟨rfl, hJx3⟩)
        · have J3 : Hid (J (allF.take (3 + 1)) W3) := hJ3
          have K3 := Lib.hid (KK.out.trans ((KeepT.alloc _ _).trans hk3))
          clear hJ3 hk3 hy
          gi_wp2
          go_roundw
          case rel => exact ⟨3 + 1, by omega, rfl, J3, K3⟩
          case measure => simp [intOf]
        · clear hy
          gi_wp2
          refine bodyPost_ret (results_none rfl _ _ _) rfl ?_
          exact ⟨⟨_, rfl⟩, .inr ⟨_, trivial, hJx3⟩⟩
    · obtain rfl : k = 4 := by omega
      have C4 := Lib.hid (KK.out _ _ _ rfl C1.out)
      clear hlt hk
      have e4 : ((4 : Nat) : Int) = 4 := rfl
      rw [e4]
      clear e4
      gi_wp2
      obtain ⟨Wt, rfl⟩ : ∃ Wt : World, Wt = wr := ⟨_, rfl⟩
      gi_loopw [5, 33] (fun _ i wr => ∃ k : Nat, k ≤ 6 ∧ i = .int .i64 k ∧ Hid (J (allF.take (4 + k)) wr) ∧ Hid (KeepT keepTy Wt wr)) (fun _ i _ => 6 - (intOf i).toNat)
      case atStart => exact ⟨0, by omega, rfl, JK, Lib.hid (KeepT.refl _ _)⟩
      case round =>
        obtain ⟨k, hk, rfl, JK2, KK2⟩ := hrel
        have cb : wr.cell? ⟨Bn, 0, none⟩ = some (.pointer (some ⟨xb, 0, none⟩)) := (KK2.out _ _ _ rfl C4.out).cell 0 rfl
        by_cases hlt : k < 6
        · have hk4 : k = 0 ∨ k = 1 ∨ k = 2 ∨ k = 3 ∨ k = 4 ∨ k = 5 := by omega
          rcases hk4 with rfl | rfl | rfl | rfl | rfl | rfl
          · obtain ⟨fn, tmps, assign, body, hy0, hR⟩ := HY.out (allF.take 4) 4 wr (JK2.out) (by decide)
            have hy : (Instr.yield l #[.agg #[.int .i64 2, .pointer (some ⟨xb, 4, none⟩)]]).run Tryz.prog wr = .ok (.round l fn tmps assign body) wr := hy0
            have HR := Lib.hid hR
            clear hR hy0
            gi_wp2
            refine HR.out.mono ?_
            rintro e W3 (⟨rfl, hJ3, hk3⟩ | ⟨rfl, hJx3⟩)
            · have J3 : Hid (J (allF.take (4 + (0 + 1))) W3) := hJ3
              have K3 := Lib.hid (KK2.out.trans hk3)
              clear hJ3 hk3 hy
              gi_wp2
              go_roundw
              case rel => exact ⟨0 + 1, by omega, rfl, J3, K3⟩
              case measure => simp [intOf]
            · clear hy
              gi_wp2
              refine bodyPost_ret (results_none rfl _ _ _) rfl ?_
              exact ⟨⟨_, rfl⟩, .inr ⟨_, trivial, hJx3⟩⟩
          · obtain ⟨fn, tmps, assign, body, hy0, hR⟩ := HY.out (allF.take 5) 5 wr (JK2.out) (by decide)
            have hy : (Instr.yield l #[.agg #[.int .i64 2, .pointer (some ⟨xb, 5, none⟩)]]).run Tryz.prog wr = .ok (.round l fn tmps assign body) wr := hy0
            have HR := Lib.hid hR
            clear hR hy0
            gi_wp2
            refine HR.out.mono ?_
            rintro e W3 (⟨rfl, hJ3, hk3⟩ | ⟨rfl, hJx3⟩)
            · have J3 : Hid (J (allF.take (4 + (1 + 1))) W3) := hJ3
              have K3 := Lib.hid (KK2.out.trans hk3)
              clear hJ3 hk3 hy
              gi_wp2
              go_roundw
              case rel => exact ⟨1 + 1, by omega, rfl, J3, K3⟩
              case measure => simp [intOf]
            · clear hy
              gi_wp2
              refine bodyPost_ret (results_none rfl _ _ _) rfl ?_
              exact ⟨⟨_, rfl⟩, .inr ⟨_, trivial, hJx3⟩⟩
          · obtain ⟨fn, tmps, assign, body, hy0, hR⟩ := HY.out (allF.take 6) 6 wr (JK2.out) (by decide)
            have hy : (Instr.yield l #[.agg #[.int .i64 2, .pointer (some ⟨xb, 6, none⟩)]]).run Tryz.prog wr = .ok (.round l fn tmps assign body) wr := hy0
            have HR := Lib.hid hR
            clear hR hy0
            gi_wp2
            refine HR.out.mono ?_
            rintro e W3 (⟨rfl, hJ3, hk3⟩ | ⟨rfl, hJx3⟩)
            · have J3 : Hid (J (allF.take (4 + (2 + 1))) W3) := hJ3
              have K3 := Lib.hid (KK2.out.trans hk3)
              clear hJ3 hk3 hy
              gi_wp2
              go_roundw
              case rel => exact ⟨2 + 1, by omega, rfl, J3, K3⟩
              case measure => simp [intOf]
            · clear hy
              gi_wp2
              refine bodyPost_ret (results_none rfl _ _ _) rfl ?_
              exact ⟨⟨_, rfl⟩, .inr ⟨_, trivial, hJx3⟩⟩
          · obtain ⟨fn, tmps, assign, body, hy0, hR⟩ := HY.out (allF.take 7) 7 wr (JK2.out) (by decide)
            have hy : (Instr.yield l #[.agg #[.int .i64 2, .pointer (some ⟨xb, 7, none⟩)]]).run Tryz.prog wr = .ok (.round l fn tmps assign body) wr := hy0
            have HR := Lib.hid hR
            clear hR hy0
            gi_wp2
            refine HR.out.mono ?_
            rintro e W3 (⟨rfl, hJ3, hk3⟩ | ⟨rfl, hJx3⟩)
            · have J3 : Hid (J (allF.take (4 + (3 + 1))) W3) := hJ3
              have K3 := Lib.hid (KK2.out.trans hk3)
              clear hJ3 hk3 hy
              gi_wp2
              go_roundw
              case rel => exact ⟨3 + 1, by omega, rfl, J3, K3⟩
              case measure => simp [intOf]
            · clear hy
              gi_wp2
              refine bodyPost_ret (results_none rfl _ _ _) rfl ?_
              exact ⟨⟨_, rfl⟩, .inr ⟨_, trivial, hJx3⟩⟩
          · obtain ⟨fn, tmps, assign, body, hy0, hR⟩ := HY.out (allF.take 8) 8 wr (JK2.out) (by decide)
            have hy : (Instr.yield l #[.agg #[.int .i64 2, .pointer (some ⟨xb, 8, none⟩)]]).run Tryz.prog wr = .ok (.round l fn tmps assign body) wr := hy0
            have HR := Lib.hid hR
            clear hR hy0
            gi_wp2
            refine HR.out.mono ?_
            rintro e W3 (⟨rfl, hJ3, hk3⟩ | ⟨rfl, hJx3⟩)
            · have J3 : Hid (J (allF.take (4 + (4 + 1))) W3) := hJ3
              have K3 := Lib.hid (KK2.out.trans hk3)
              clear hJ3 hk3 hy
              gi_wp2
              go_roundw
              case rel => exact ⟨4 + 1, by omega, rfl, J3, K3⟩
              case measure => simp [intOf]
            · clear hy
              gi_wp2
              refine bodyPost_ret (results_none rfl _ _ _) rfl ?_
              exact ⟨⟨_, rfl⟩, .inr ⟨_, trivial, hJx3⟩⟩
          · obtain ⟨fn, tmps, assign, body, hy0, hR⟩ := HY.out (allF.take 9) 9 wr (JK2.out) (by decide)
            have hy : (Instr.yield l #[.agg #[.int .i64 2, .pointer (some ⟨xb, 9, none⟩)]]).run Tryz.prog wr = .ok (.round l fn tmps assign body) wr := hy0
            have HR := Lib.hid hR
            clear hR hy0
            gi_wp2
            refine HR.out.mono ?_
            rintro e W3 (⟨rfl, hJ3, hk3⟩ | ⟨rfl, hJx3⟩)
            · have J3 : Hid (J (allF.take (4 + (5 + 1))) W3) := hJ3
              have K3 := Lib.hid (KK2.out.trans hk3)
              clear hJ3 hk3 hy
              gi_wp2
              go_roundw
              case rel => exact ⟨5 + 1, by omega, rfl, J3, K3⟩
              case measure => simp [intOf]
            · clear hy
              gi_wp2
              refine bodyPost_ret (results_none rfl _ _ _) rfl ?_
              exact ⟨⟨_, rfl⟩, .inr ⟨_, trivial, hJx3⟩⟩
        · obtain rfl : k = 6 := by omega
          clear hlt hk
          obtain ⟨fn, tmps, assign, body, hy0, hR⟩ := HY.out (allF.take 10) 10 wr (JK2.out) (by decide)
          have hy : (Instr.yield l #[.agg #[.int .i64 2, .pointer (some ⟨xb, 10, none⟩)]]).run Tryz.prog wr = .ok (.round l fn tmps assign body) wr := hy0
          have HR := Lib.hid hR
          clear hR hy0
          gi_wp2
          refine HR.out.mono ?_
          rintro e W3 (⟨rfl, hJ3, hk3⟩ | ⟨rfl, hJx3⟩)
          · have J3 : Hid (J (allF.take 11) W3) := hJ3
            have cb3 : W3.cell? ⟨Bn, 0, none⟩ = some (.pointer (some ⟨xb, 0, none⟩)) := (hk3 _ _ _ rfl (KK2.out _ _ _ rfl C4.out)).cell 0 rfl
            clear hJ3 hk3 hy HR cb
            obtain ⟨fn, tmps, assign, body, hy0, hR⟩ := HY.out (allF.take 11) 11 W3 (J3.out) (by decide)
            have hy : (Instr.yield l #[.agg #[.int .i64 2, .pointer (some ⟨xb, 11, none⟩)]]).run Tryz.prog W3 = .ok (.round l fn tmps assign body) W3 := hy0
            have HR := Lib.hid hR
            clear hR hy0
            gi_wp2
            refine HR.out.mono ?_
            rintro e W4 (⟨rfl, hJ4, hk4⟩ | ⟨rfl, hJx4⟩)
            · clear hy
              gi_wp2
              go_end0
              exact ⟨⟨_, rfl⟩, .inl ⟨_, rfl, hJ4⟩⟩
            · clear hy
              gi_wp2
              go_end0
              exact ⟨⟨_, rfl⟩, .inr ⟨_, trivial, hJx4⟩⟩
          · clear hy
            gi_wp2
            go_end0
            exact ⟨⟨_, rfl⟩, .inr ⟨_, trivial, hJx3⟩⟩
end Go.Proofs.YtoanladhikdcaaaGreat
