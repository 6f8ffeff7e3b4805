/- The program's types, as the abstract machine sees them. -/
import Derived.Test.YthllmdjcogjkoaaDoorAi29
import Derived.Test.YthllmdjcogjkoaaDoorProg
import Derived.KernelRfl
namespace Go.Ai
open Go.Proofs
set_option linter.unusedVariables false
set_option linter.unusedSimpArgs false
theorem prog_ok : progOk Tryd.prog = true := by kernel_rfl
theorem ag2 : aggT Tryd.prog 2 = some false := by kernel_rfl
theorem sz2 : szOf Tryd.prog 2 = some 1 := by kernel_rfl
theorem ag3 : aggT Tryd.prog 3 = some false := by kernel_rfl
theorem sz3 : szOf Tryd.prog 3 = some 1 := by kernel_rfl
theorem ag4 : aggT Tryd.prog 4 = some false := by kernel_rfl
theorem sz4 : szOf Tryd.prog 4 = some 1 := by kernel_rfl
theorem ag5 : aggT Tryd.prog 5 = some false := by kernel_rfl
theorem sz5 : szOf Tryd.prog 5 = some 1 := by kernel_rfl
theorem ag9 : aggT Tryd.prog 9 = some false := by kernel_rfl
theorem sz9 : szOf Tryd.prog 9 = some 1 := by kernel_rfl
theorem ag23 : aggT Tryd.prog 23 = some false := by kernel_rfl
theorem sz23 : szOf Tryd.prog 23 = some 1 := by kernel_rfl
theorem ag29 : aggT Tryd.prog 29 = some false := by kernel_rfl
theorem sz29 : szOf Tryd.prog 29 = some 1 := by kernel_rfl
theorem ag30 : aggT Tryd.prog 30 = some false := by kernel_rfl
theorem sz30 : szOf Tryd.prog 30 = some 1 := by kernel_rfl
theorem ag31 : aggT Tryd.prog 31 = some false := by kernel_rfl
theorem sz31 : szOf Tryd.prog 31 = some 1 := by kernel_rfl
theorem ag33 : aggT Tryd.prog 33 = some true := by kernel_rfl
theorem sz33 : szOf Tryd.prog 33 = some 2 := by kernel_rfl
theorem ag49 : aggT Tryd.prog 49 = some false := by kernel_rfl
theorem sz49 : szOf Tryd.prog 49 = some 1 := by kernel_rfl
theorem ag51 : aggT Tryd.prog 51 = some true := by kernel_rfl
theorem sz51 : szOf Tryd.prog 51 = some 5 := by kernel_rfl
theorem ag55 : aggT Tryd.prog 55 = some false := by kernel_rfl
theorem sz55 : szOf Tryd.prog 55 = some 1 := by kernel_rfl
theorem ag56 : aggT Tryd.prog 56 = some false := by kernel_rfl
theorem sz56 : szOf Tryd.prog 56 = some 1 := by kernel_rfl
theorem ag58 : aggT Tryd.prog 58 = some true := by kernel_rfl
theorem sz58 : szOf Tryd.prog 58 = some 2 := by kernel_rfl
theorem ag59 : aggT Tryd.prog 59 = some false := by kernel_rfl
theorem sz59 : szOf Tryd.prog 59 = some 1 := by kernel_rfl
theorem ag61 : aggT Tryd.prog 61 = some true := by kernel_rfl
theorem sz61 : szOf Tryd.prog 61 = some 3 := by kernel_rfl
theorem ag64 : aggT Tryd.prog 64 = some false := by kernel_rfl
theorem sz64 : szOf Tryd.prog 64 = some 1 := by kernel_rfl
theorem ag67 : aggT Tryd.prog 67 = some true := by kernel_rfl
theorem sz67 : szOf Tryd.prog 67 = some 3 := by kernel_rfl
theorem ag69 : aggT Tryd.prog 69 = some true := by kernel_rfl
theorem sz69 : szOf Tryd.prog 69 = some 3 := by kernel_rfl
theorem ag75 : aggT Tryd.prog 75 = some false := by kernel_rfl
theorem sz75 : szOf Tryd.prog 75 = some 1 := by kernel_rfl
theorem ag76 : aggT Tryd.prog 76 = some false := by kernel_rfl
theorem sz76 : szOf Tryd.prog 76 = some 1 := by kernel_rfl
theorem ag78 : aggT Tryd.prog 78 = some true := by kernel_rfl
theorem sz78 : szOf Tryd.prog 78 = some 2 := by kernel_rfl
theorem ag87 : aggT Tryd.prog 87 = some true := by kernel_rfl
theorem sz87 : szOf Tryd.prog 87 = some 4 := by kernel_rfl
theorem ag90 : aggT Tryd.prog 90 = some false := by kernel_rfl
theorem sz90 : szOf Tryd.prog 90 = some 1 := by kernel_rfl
theorem ag91 : aggT Tryd.prog 91 = some false := by kernel_rfl
theorem sz91 : szOf Tryd.prog 91 = some 1 := by kernel_rfl
theorem ag93 : aggT Tryd.prog 93 = some true := by kernel_rfl
theorem sz93 : szOf Tryd.prog 93 = some 4 := by kernel_rfl
theorem ag96 : aggT Tryd.prog 96 = some false := by kernel_rfl
theorem sz96 : szOf Tryd.prog 96 = some 1 := by kernel_rfl
theorem ag107 : aggT Tryd.prog 107 = some false := by kernel_rfl
theorem sz107 : szOf Tryd.prog 107 = some 1 := by kernel_rfl
theorem ag110 : aggT Tryd.prog 110 = some true := by kernel_rfl
theorem sz110 : szOf Tryd.prog 110 = some 3 := by kernel_rfl
theorem ag115 : aggT Tryd.prog 115 = some false := by kernel_rfl
theorem sz115 : szOf Tryd.prog 115 = some 1 := by kernel_rfl
theorem ag117 : aggT Tryd.prog 117 = some true := by kernel_rfl
theorem sz117 : szOf Tryd.prog 117 = some 1 := by kernel_rfl
theorem ag119 : aggT Tryd.prog 119 = some false := by kernel_rfl
theorem sz119 : szOf Tryd.prog 119 = some 1 := by kernel_rfl
theorem ag135 : aggT Tryd.prog 135 = some true := by kernel_rfl
theorem sz135 : szOf Tryd.prog 135 = some 24 := by kernel_rfl
theorem ag136 : aggT Tryd.prog 136 = some false := by kernel_rfl
theorem sz136 : szOf Tryd.prog 136 = some 1 := by kernel_rfl
theorem ag143 : aggT Tryd.prog 143 = some true := by kernel_rfl
theorem sz143 : szOf Tryd.prog 143 = some 20 := by kernel_rfl
theorem ag144 : aggT Tryd.prog 144 = some false := by kernel_rfl
theorem sz144 : szOf Tryd.prog 144 = some 1 := by kernel_rfl
theorem ag145 : aggT Tryd.prog 145 = some true := by kernel_rfl
theorem sz145 : szOf Tryd.prog 145 = some 65 := by kernel_rfl
theorem ag146 : aggT Tryd.prog 146 = some false := by kernel_rfl
theorem sz146 : szOf Tryd.prog 146 = some 1 := by kernel_rfl
theorem ag152 : aggT Tryd.prog 152 = some true := by kernel_rfl
theorem sz152 : szOf Tryd.prog 152 = some 32 := by kernel_rfl
theorem ag153 : aggT Tryd.prog 153 = some true := by kernel_rfl
theorem sz153 : szOf Tryd.prog 153 = some 64 := by kernel_rfl
theorem u2 : Tryd.prog.underlying 2 = some (.int .i64) := by kernel_rfl
theorem al2 {h : AH} {v : AV} : allocA Tryd.prog h 2 v = newVarA h v := al_no (by kernel_rfl)
theorem zr2 : zeroA Tryd.prog 2 = some (.int .i64 0) := by kernel_rfl
theorem u3 : Tryd.prog.underlying 3 = some (.int .i64) := by kernel_rfl
theorem al3 {h : AH} {v : AV} : allocA Tryd.prog h 3 v = newVarA h v := al_no (by kernel_rfl)
theorem zr3 : zeroA Tryd.prog 3 = some (.int .i64 0) := by kernel_rfl
theorem u4 : Tryd.prog.underlying 4 = some .bool := by kernel_rfl
theorem al4 {h : AH} {v : AV} : allocA Tryd.prog h 4 v = newVarA h v := al_no (by kernel_rfl)
theorem zr4 : zeroA Tryd.prog 4 = some (.bool false) := by kernel_rfl
theorem eb4 {a b : Bool} : binA Tryd.prog .eql 4 (.bool a) (.bool b) = some (.bool (a == b)) := by simp [binA, eqA, u4]
theorem nb4 {a b : Bool} : binA Tryd.prog .neq 4 (.bool a) (.bool b) = some (.bool !(a == b)) := by simp [binA, eqA, u4]
theorem u5 : Tryd.prog.underlying 5 = some (.int .u8) := by kernel_rfl
theorem al5 {h : AH} {v : AV} : allocA Tryd.prog h 5 v = newVarA h v := al_no (by kernel_rfl)
theorem zr5 : zeroA Tryd.prog 5 = some (.int .u8 0) := by kernel_rfl
theorem u9 : Tryd.prog.underlying 9 = some .string := by kernel_rfl
theorem al9 {h : AH} {v : AV} : allocA Tryd.prog h 9 v = newVarA h v := al_no (by kernel_rfl)
theorem zr9 : zeroA Tryd.prog 9 = some (.str ⟨#[]⟩) := by kernel_rfl
theorem u23 : Tryd.prog.underlying 23 = some (.int .i64) := by kernel_rfl
theorem al23 {h : AH} {v : AV} : allocA Tryd.prog h 23 v = newVarA h v := al_no (by kernel_rfl)
theorem zr23 : zeroA Tryd.prog 23 = some (.int .i64 0) := by kernel_rfl
theorem u29 : Tryd.prog.underlying 29 = some (.slice 9) := by kernel_rfl
theorem al29 {h : AH} {v : AV} : allocA Tryd.prog h 29 v = newVarA h v := al_no (by kernel_rfl)
theorem zr29 : zeroA Tryd.prog 29 = some (.nilslice) := by kernel_rfl
theorem ln29 {h : AH} {n : Nat} {cs : List AV} : builtinA Tryd.prog h .len [29] [.lst n cs] = some (.int .i64 n, h) := ln_lst u29
theorem ln29n {h : AH} : builtinA Tryd.prog h .len [29] [.nilslice] = some (.int .i64 (0 : Nat), h) := ln_nil u29
theorem ln29s {h : AH} {id off n : Nat} {c : Cap} : builtinA Tryd.prog h .len [29] [.slice id off n c] = some (.int .i64 n, h) := ln_slice u29
theorem ln29e {h : AH} {id off n : Nat} : builtinA Tryd.prog h .len [29] [.empty id off n] = some (.int .i64 (0 : Nat), h) := by simp [builtinA, lenA, u29]
theorem ix29 {k : IntKind} {n i : Nat} {cs : List AV} (hi : i < n) : indexAddrA Tryd.prog 29 (.lst n cs) (.int k i) = some (.ipt cs i) := ix_lst u29 sz9 hi
theorem ix29s {k : IntKind} {id off n i : Nat} {c : Cap} (hi : i < n) : indexAddrA Tryd.prog 29 (.slice id off n c) (.int k i) = some (.ptr id (off + i)) := by simp only [indexAddrA, u29, sz9]; rw [decide_eq_true (by omega)]; simp
theorem ap29 : AppTy Tryd.prog 29 9 1 := ⟨by kernel_rfl, u29, by kernel_rfl, by kernel_rfl, by decide, by kernel_rfl⟩
theorem bs0_29 {h : AH} : buildSliceA Tryd.prog h 29 0 [] = some (.slice h.n 0 0 (.exact 0), h.push (.cells [] false)) := by kernel_rfl
theorem bs1_29 {h : AH} {v : AV} (hv : v.box = some [v]) : buildSliceA Tryd.prog h 29 1 [(0, v)] = some (.slice h.n 0 1 (.exact 1), h.push (.cells [v] false)) := by
  have e : buildSliceA Tryd.prog h 29 1 [(0, v)] = (match fillA (fun i => some (i * 1, 1)) [.str ⟨#[]⟩] [(0, v)] with | some cs => some (.slice h.n 0 1 (.exact 1), h.push (.cells cs false)) | none => none) := by kernel_rfl
  rw [e]; simp [fillA, hv, splice]
theorem bs1_29t {h : AH} {s : ByteArray} : buildSliceA Tryd.prog h 29 1 [(0, .str s)] = some (.slice h.n 0 1 (.exact 1), h.push (.cells [.str s] false)) := bs1_29 rfl
theorem bs2_29 {h : AH} {v w : AV} (hv : v.box = some [v]) (hw : w.box = some [w]) : buildSliceA Tryd.prog h 29 2 [(0, v), (1, w)] = some (.slice h.n 0 2 (.exact 2), h.push (.cells [v, w] false)) := by
  have e : buildSliceA Tryd.prog h 29 2 [(0, v), (1, w)] = (match fillA (fun i => some (i * 1, 1)) [.str ⟨#[]⟩, .str ⟨#[]⟩] [(0, v), (1, w)] with | some cs => some (.slice h.n 0 2 (.exact 2), h.push (.cells cs false)) | none => none) := by kernel_rfl
  rw [e]; simp [fillA, hv, hw, splice]
theorem bs2_29t {h : AH} {s : ByteArray} {s' : ByteArray} : buildSliceA Tryd.prog h 29 2 [(0, .str s), (1, .str s')] = some (.slice h.n 0 2 (.exact 2), h.push (.cells [.str s, .str s'] false)) := bs2_29 rfl rfl
theorem u30 : Tryd.prog.underlying 30 = some (.slice 67) := by kernel_rfl
theorem al30 {h : AH} {v : AV} : allocA Tryd.prog h 30 v = newVarA h v := al_no (by kernel_rfl)
theorem zr30 : zeroA Tryd.prog 30 = some (.nilslice) := by kernel_rfl
theorem ln30 {h : AH} {n : Nat} {cs : List AV} : builtinA Tryd.prog h .len [30] [.lst n cs] = some (.int .i64 n, h) := ln_lst u30
theorem ln30n {h : AH} : builtinA Tryd.prog h .len [30] [.nilslice] = some (.int .i64 (0 : Nat), h) := ln_nil u30
theorem ln30s {h : AH} {id off n : Nat} {c : Cap} : builtinA Tryd.prog h .len [30] [.slice id off n c] = some (.int .i64 n, h) := ln_slice u30
theorem ln30e {h : AH} {id off n : Nat} : builtinA Tryd.prog h .len [30] [.empty id off n] = some (.int .i64 (0 : Nat), h) := by simp [builtinA, lenA, u30]
theorem ix30 {k : IntKind} {n i : Nat} {cs : List AV} (hi : i < n) : indexAddrA Tryd.prog 30 (.lst n cs) (.int k i) = some (.ipt cs (i * 3)) := ix_lstz u30 sz67 hi
theorem ix30s {k : IntKind} {id off n i : Nat} {c : Cap} (hi : i < n) : indexAddrA Tryd.prog 30 (.slice id off n c) (.int k i) = some (.ptr id (off + i * 3)) := by simp only [indexAddrA, u30, sz67]; rw [decide_eq_true (by omega)]; simp
theorem ap30 : AppTy Tryd.prog 30 67 3 := ⟨by kernel_rfl, u30, by kernel_rfl, by kernel_rfl, by decide, by kernel_rfl⟩
theorem bs0_30 {h : AH} : buildSliceA Tryd.prog h 30 0 [] = some (.slice h.n 0 0 (.exact 0), h.push (.cells [] false)) := by kernel_rfl
theorem u31 : Tryd.prog.underlying 31 = some (.slice 3) := by kernel_rfl
theorem al31 {h : AH} {v : AV} : allocA Tryd.prog h 31 v = newVarA h v := al_no (by kernel_rfl)
theorem zr31 : zeroA Tryd.prog 31 = some (.nilslice) := by kernel_rfl
theorem ln31 {h : AH} {n : Nat} {cs : List AV} : builtinA Tryd.prog h .len [31] [.lst n cs] = some (.int .i64 n, h) := ln_lst u31
theorem ln31n {h : AH} : builtinA Tryd.prog h .len [31] [.nilslice] = some (.int .i64 (0 : Nat), h) := ln_nil u31
theorem ln31s {h : AH} {id off n : Nat} {c : Cap} : builtinA Tryd.prog h .len [31] [.slice id off n c] = some (.int .i64 n, h) := ln_slice u31
theorem ln31e {h : AH} {id off n : Nat} : builtinA Tryd.prog h .len [31] [.empty id off n] = some (.int .i64 (0 : Nat), h) := by simp [builtinA, lenA, u31]
theorem ix31 {k : IntKind} {n i : Nat} {cs : List AV} (hi : i < n) : indexAddrA Tryd.prog 31 (.lst n cs) (.int k i) = some (.ipt cs i) := ix_lst u31 sz3 hi
theorem ix31s {k : IntKind} {id off n i : Nat} {c : Cap} (hi : i < n) : indexAddrA Tryd.prog 31 (.slice id off n c) (.int k i) = some (.ptr id (off + i)) := by simp only [indexAddrA, u31, sz3]; rw [decide_eq_true (by omega)]; simp
theorem ap31 : AppTy Tryd.prog 31 3 1 := ⟨by kernel_rfl, u31, by kernel_rfl, by kernel_rfl, by decide, by kernel_rfl⟩
theorem bs0_31 {h : AH} : buildSliceA Tryd.prog h 31 0 [] = some (.slice h.n 0 0 (.exact 0), h.push (.cells [] false)) := by kernel_rfl
theorem bs1_31 {h : AH} {v : AV} (hv : v.box = some [v]) : buildSliceA Tryd.prog h 31 1 [(0, v)] = some (.slice h.n 0 1 (.exact 1), h.push (.cells [v] false)) := by
  have e : buildSliceA Tryd.prog h 31 1 [(0, v)] = (match fillA (fun i => some (i * 1, 1)) [.int .i64 0] [(0, v)] with | some cs => some (.slice h.n 0 1 (.exact 1), h.push (.cells cs false)) | none => none) := by kernel_rfl
  rw [e]; simp [fillA, hv, splice]
theorem bs1_31i {h : AH} {k : IntKind} {x : Int} : buildSliceA Tryd.prog h 31 1 [(0, .int k x)] = some (.slice h.n 0 1 (.exact 1), h.push (.cells [.int k x] false)) := bs1_31 rfl
theorem bs2_31 {h : AH} {v w : AV} (hv : v.box = some [v]) (hw : w.box = some [w]) : buildSliceA Tryd.prog h 31 2 [(0, v), (1, w)] = some (.slice h.n 0 2 (.exact 2), h.push (.cells [v, w] false)) := by
  have e : buildSliceA Tryd.prog h 31 2 [(0, v), (1, w)] = (match fillA (fun i => some (i * 1, 1)) [.int .i64 0, .int .i64 0] [(0, v), (1, w)] with | some cs => some (.slice h.n 0 2 (.exact 2), h.push (.cells cs false)) | none => none) := by kernel_rfl
  rw [e]; simp [fillA, hv, hw, splice]
theorem bs2_31i {h : AH} {k : IntKind} {x : Int} {k' : IntKind} {x' : Int} : buildSliceA Tryd.prog h 31 2 [(0, .int k x), (1, .int k' x')] = some (.slice h.n 0 2 (.exact 2), h.push (.cells [.int k x, .int k' x'] false)) := bs2_31 rfl rfl
theorem la33 {h : AH} {id off : Nat} : loadA Tryd.prog h 33 (.ptr id off) = (cellsAt h id).bind fun cs => (cut cs off 2).map .agg := ld_ptra ag33 sz33
theorem li33 {h : AH} {off : Nat} {cs : List AV} : loadA Tryd.prog h 33 (.ipt cs off) = (cut cs off 2).map .agg := by simp only [loadA, ag33, sz33]
theorem al33 {h : AH} {v : AV} : allocA Tryd.prog h 33 v = newVarA h v := al_no (by kernel_rfl)
theorem zr33 : zeroA Tryd.prog 33 = some (.agg [.int .i64 0, .nilslice]) := by kernel_rfl
theorem bd33 {ps : List (Nat × AV)} : buildA Tryd.prog 33 ps = (fillA (fun i => [(0, 1), (1, 1)][i]?) [.int .i64 0, .nilslice] ps).map .agg := by kernel_rfl
theorem fa33_0 {id off : Nat} : fieldAddrA Tryd.prog 33 (.ptr id off) 0 = some (.ptr id (off + 0)) := by kernel_rfl
theorem fi33_0 {cs : List AV} {off : Nat} : fieldAddrA Tryd.prog 33 (.ipt cs off) 0 = some (.ipt cs (off + 0)) := by kernel_rfl
theorem fb33_0 {cs : List AV} : fieldA Tryd.prog 33 (.agg cs) 0 = cs[0]? := by kernel_rfl
theorem fa33_1 {id off : Nat} : fieldAddrA Tryd.prog 33 (.ptr id off) 1 = some (.ptr id (off + 1)) := by kernel_rfl
theorem fi33_1 {cs : List AV} {off : Nat} : fieldAddrA Tryd.prog 33 (.ipt cs off) 1 = some (.ipt cs (off + 1)) := by kernel_rfl
theorem fb33_1 {cs : List AV} : fieldA Tryd.prog 33 (.agg cs) 1 = cs[1]? := by kernel_rfl
theorem u49 : Tryd.prog.underlying 49 = some (.slice 51) := by kernel_rfl
theorem al49 {h : AH} {v : AV} : allocA Tryd.prog h 49 v = newVarA h v := al_no (by kernel_rfl)
theorem zr49 : zeroA Tryd.prog 49 = some (.nilslice) := by kernel_rfl
theorem ln49 {h : AH} {n : Nat} {cs : List AV} : builtinA Tryd.prog h .len [49] [.lst n cs] = some (.int .i64 n, h) := ln_lst u49
theorem ln49n {h : AH} : builtinA Tryd.prog h .len [49] [.nilslice] = some (.int .i64 (0 : Nat), h) := ln_nil u49
theorem ln49s {h : AH} {id off n : Nat} {c : Cap} : builtinA Tryd.prog h .len [49] [.slice id off n c] = some (.int .i64 n, h) := ln_slice u49
theorem ln49e {h : AH} {id off n : Nat} : builtinA Tryd.prog h .len [49] [.empty id off n] = some (.int .i64 (0 : Nat), h) := by simp [builtinA, lenA, u49]
theorem ix49 {k : IntKind} {n i : Nat} {cs : List AV} (hi : i < n) : indexAddrA Tryd.prog 49 (.lst n cs) (.int k i) = some (.ipt cs (i * 5)) := ix_lstz u49 sz51 hi
theorem ix49s {k : IntKind} {id off n i : Nat} {c : Cap} (hi : i < n) : indexAddrA Tryd.prog 49 (.slice id off n c) (.int k i) = some (.ptr id (off + i * 5)) := by simp only [indexAddrA, u49, sz51]; rw [decide_eq_true (by omega)]; simp
theorem ap49 : AppTy Tryd.prog 49 51 5 := ⟨by kernel_rfl, u49, by kernel_rfl, by kernel_rfl, by decide, by kernel_rfl⟩
theorem bs0_49 {h : AH} : buildSliceA Tryd.prog h 49 0 [] = some (.slice h.n 0 0 (.exact 0), h.push (.cells [] false)) := by kernel_rfl
theorem la51 {h : AH} {id off : Nat} : loadA Tryd.prog h 51 (.ptr id off) = (cellsAt h id).bind fun cs => (cut cs off 5).map .agg := ld_ptra ag51 sz51
theorem li51 {h : AH} {off : Nat} {cs : List AV} : loadA Tryd.prog h 51 (.ipt cs off) = (cut cs off 5).map .agg := by simp only [loadA, ag51, sz51]
theorem al51 {h : AH} {v : AV} : allocA Tryd.prog h 51 v = newVarA h v := al_no (by kernel_rfl)
theorem zr51 : zeroA Tryd.prog 51 = some (.agg [.int .i64 0, .int .i64 0, .str ⟨#[]⟩, .nilslice, .nilslice]) := by kernel_rfl
theorem bd51 {ps : List (Nat × AV)} : buildA Tryd.prog 51 ps = (fillA (fun i => [(0, 1), (1, 1), (2, 1), (3, 1), (4, 1)][i]?) [.int .i64 0, .int .i64 0, .str ⟨#[]⟩, .nilslice, .nilslice] ps).map .agg := by kernel_rfl
theorem fa51_0 {id off : Nat} : fieldAddrA Tryd.prog 51 (.ptr id off) 0 = some (.ptr id (off + 0)) := by kernel_rfl
theorem fi51_0 {cs : List AV} {off : Nat} : fieldAddrA Tryd.prog 51 (.ipt cs off) 0 = some (.ipt cs (off + 0)) := by kernel_rfl
theorem fb51_0 {cs : List AV} : fieldA Tryd.prog 51 (.agg cs) 0 = cs[0]? := by kernel_rfl
theorem fa51_1 {id off : Nat} : fieldAddrA Tryd.prog 51 (.ptr id off) 1 = some (.ptr id (off + 1)) := by kernel_rfl
theorem fi51_1 {cs : List AV} {off : Nat} : fieldAddrA Tryd.prog 51 (.ipt cs off) 1 = some (.ipt cs (off + 1)) := by kernel_rfl
theorem fb51_1 {cs : List AV} : fieldA Tryd.prog 51 (.agg cs) 1 = cs[1]? := by kernel_rfl
theorem fa51_2 {id off : Nat} : fieldAddrA Tryd.prog 51 (.ptr id off) 2 = some (.ptr id (off + 2)) := by kernel_rfl
theorem fi51_2 {cs : List AV} {off : Nat} : fieldAddrA Tryd.prog 51 (.ipt cs off) 2 = some (.ipt cs (off + 2)) := by kernel_rfl
theorem fb51_2 {cs : List AV} : fieldA Tryd.prog 51 (.agg cs) 2 = cs[2]? := by kernel_rfl
theorem fa51_3 {id off : Nat} : fieldAddrA Tryd.prog 51 (.ptr id off) 3 = some (.ptr id (off + 3)) := by kernel_rfl
theorem fi51_3 {cs : List AV} {off : Nat} : fieldAddrA Tryd.prog 51 (.ipt cs off) 3 = some (.ipt cs (off + 3)) := by kernel_rfl
theorem fb51_3 {cs : List AV} : fieldA Tryd.prog 51 (.agg cs) 3 = cs[3]? := by kernel_rfl
theorem fa51_4 {id off : Nat} : fieldAddrA Tryd.prog 51 (.ptr id off) 4 = some (.ptr id (off + 4)) := by kernel_rfl
theorem fi51_4 {cs : List AV} {off : Nat} : fieldAddrA Tryd.prog 51 (.ipt cs off) 4 = some (.ipt cs (off + 4)) := by kernel_rfl
theorem fb51_4 {cs : List AV} : fieldA Tryd.prog 51 (.agg cs) 4 = cs[4]? := by kernel_rfl
theorem u55 : Tryd.prog.underlying 55 = some (.slice 51) := by kernel_rfl
theorem al55 {h : AH} {v : AV} : allocA Tryd.prog h 55 v = newVarA h v := al_no (by kernel_rfl)
theorem zr55 : zeroA Tryd.prog 55 = some (.nilslice) := by kernel_rfl
theorem ln55 {h : AH} {n : Nat} {cs : List AV} : builtinA Tryd.prog h .len [55] [.lst n cs] = some (.int .i64 n, h) := ln_lst u55
theorem ln55n {h : AH} : builtinA Tryd.prog h .len [55] [.nilslice] = some (.int .i64 (0 : Nat), h) := ln_nil u55
theorem ln55s {h : AH} {id off n : Nat} {c : Cap} : builtinA Tryd.prog h .len [55] [.slice id off n c] = some (.int .i64 n, h) := ln_slice u55
theorem ln55e {h : AH} {id off n : Nat} : builtinA Tryd.prog h .len [55] [.empty id off n] = some (.int .i64 (0 : Nat), h) := by simp [builtinA, lenA, u55]
theorem ix55 {k : IntKind} {n i : Nat} {cs : List AV} (hi : i < n) : indexAddrA Tryd.prog 55 (.lst n cs) (.int k i) = some (.ipt cs (i * 5)) := ix_lstz u55 sz51 hi
theorem ix55s {k : IntKind} {id off n i : Nat} {c : Cap} (hi : i < n) : indexAddrA Tryd.prog 55 (.slice id off n c) (.int k i) = some (.ptr id (off + i * 5)) := by simp only [indexAddrA, u55, sz51]; rw [decide_eq_true (by omega)]; simp
theorem ap55 : AppTy Tryd.prog 55 51 5 := ⟨by kernel_rfl, u55, by kernel_rfl, by kernel_rfl, by decide, by kernel_rfl⟩
theorem bs0_55 {h : AH} : buildSliceA Tryd.prog h 55 0 [] = some (.slice h.n 0 0 (.exact 0), h.push (.cells [] false)) := by kernel_rfl
theorem u56 : Tryd.prog.underlying 56 = some (.slice 110) := by kernel_rfl
theorem al56 {h : AH} {v : AV} : allocA Tryd.prog h 56 v = newVarA h v := al_no (by kernel_rfl)
theorem zr56 : zeroA Tryd.prog 56 = some (.nilslice) := by kernel_rfl
theorem ln56 {h : AH} {n : Nat} {cs : List AV} : builtinA Tryd.prog h .len [56] [.lst n cs] = some (.int .i64 n, h) := ln_lst u56
theorem ln56n {h : AH} : builtinA Tryd.prog h .len [56] [.nilslice] = some (.int .i64 (0 : Nat), h) := ln_nil u56
theorem ln56s {h : AH} {id off n : Nat} {c : Cap} : builtinA Tryd.prog h .len [56] [.slice id off n c] = some (.int .i64 n, h) := ln_slice u56
theorem ln56e {h : AH} {id off n : Nat} : builtinA Tryd.prog h .len [56] [.empty id off n] = some (.int .i64 (0 : Nat), h) := by simp [builtinA, lenA, u56]
theorem ix56 {k : IntKind} {n i : Nat} {cs : List AV} (hi : i < n) : indexAddrA Tryd.prog 56 (.lst n cs) (.int k i) = some (.ipt cs (i * 3)) := ix_lstz u56 sz110 hi
theorem ix56s {k : IntKind} {id off n i : Nat} {c : Cap} (hi : i < n) : indexAddrA Tryd.prog 56 (.slice id off n c) (.int k i) = some (.ptr id (off + i * 3)) := by simp only [indexAddrA, u56, sz110]; rw [decide_eq_true (by omega)]; simp
theorem ap56 : AppTy Tryd.prog 56 110 3 := ⟨by kernel_rfl, u56, by kernel_rfl, by kernel_rfl, by decide, by kernel_rfl⟩
theorem bs0_56 {h : AH} : buildSliceA Tryd.prog h 56 0 [] = some (.slice h.n 0 0 (.exact 0), h.push (.cells [] false)) := by kernel_rfl
theorem la58 {h : AH} {id off : Nat} : loadA Tryd.prog h 58 (.ptr id off) = (cellsAt h id).bind fun cs => (cut cs off 2).map .agg := ld_ptra ag58 sz58
theorem li58 {h : AH} {off : Nat} {cs : List AV} : loadA Tryd.prog h 58 (.ipt cs off) = (cut cs off 2).map .agg := by simp only [loadA, ag58, sz58]
theorem al58 {h : AH} {v : AV} : allocA Tryd.prog h 58 v = newVarA h v := al_no (by kernel_rfl)
theorem zr58 : zeroA Tryd.prog 58 = some (.agg [.nilslice, .int .i64 0]) := by kernel_rfl
theorem bd58 {ps : List (Nat × AV)} : buildA Tryd.prog 58 ps = (fillA (fun i => [(0, 1), (1, 1)][i]?) [.nilslice, .int .i64 0] ps).map .agg := by kernel_rfl
theorem fa58_0 {id off : Nat} : fieldAddrA Tryd.prog 58 (.ptr id off) 0 = some (.ptr id (off + 0)) := by kernel_rfl
theorem fi58_0 {cs : List AV} {off : Nat} : fieldAddrA Tryd.prog 58 (.ipt cs off) 0 = some (.ipt cs (off + 0)) := by kernel_rfl
theorem fb58_0 {cs : List AV} : fieldA Tryd.prog 58 (.agg cs) 0 = cs[0]? := by kernel_rfl
theorem fa58_1 {id off : Nat} : fieldAddrA Tryd.prog 58 (.ptr id off) 1 = some (.ptr id (off + 1)) := by kernel_rfl
theorem fi58_1 {cs : List AV} {off : Nat} : fieldAddrA Tryd.prog 58 (.ipt cs off) 1 = some (.ipt cs (off + 1)) := by kernel_rfl
theorem fb58_1 {cs : List AV} : fieldA Tryd.prog 58 (.agg cs) 1 = cs[1]? := by kernel_rfl
theorem u59 : Tryd.prog.underlying 59 = some (.slice 69) := by kernel_rfl
theorem al59 {h : AH} {v : AV} : allocA Tryd.prog h 59 v = newVarA h v := al_no (by kernel_rfl)
theorem zr59 : zeroA Tryd.prog 59 = some (.nilslice) := by kernel_rfl
theorem ln59 {h : AH} {n : Nat} {cs : List AV} : builtinA Tryd.prog h .len [59] [.lst n cs] = some (.int .i64 n, h) := ln_lst u59
theorem ln59n {h : AH} : builtinA Tryd.prog h .len [59] [.nilslice] = some (.int .i64 (0 : Nat), h) := ln_nil u59
theorem ln59s {h : AH} {id off n : Nat} {c : Cap} : builtinA Tryd.prog h .len [59] [.slice id off n c] = some (.int .i64 n, h) := ln_slice u59
theorem ln59e {h : AH} {id off n : Nat} : builtinA Tryd.prog h .len [59] [.empty id off n] = some (.int .i64 (0 : Nat), h) := by simp [builtinA, lenA, u59]
theorem ix59 {k : IntKind} {n i : Nat} {cs : List AV} (hi : i < n) : indexAddrA Tryd.prog 59 (.lst n cs) (.int k i) = some (.ipt cs (i * 3)) := ix_lstz u59 sz69 hi
theorem ix59s {k : IntKind} {id off n i : Nat} {c : Cap} (hi : i < n) : indexAddrA Tryd.prog 59 (.slice id off n c) (.int k i) = some (.ptr id (off + i * 3)) := by simp only [indexAddrA, u59, sz69]; rw [decide_eq_true (by omega)]; simp
theorem ap59 : AppTy Tryd.prog 59 69 3 := ⟨by kernel_rfl, u59, by kernel_rfl, by kernel_rfl, by decide, by kernel_rfl⟩
theorem bs0_59 {h : AH} : buildSliceA Tryd.prog h 59 0 [] = some (.slice h.n 0 0 (.exact 0), h.push (.cells [] false)) := by kernel_rfl
theorem la61 {h : AH} {id off : Nat} : loadA Tryd.prog h 61 (.ptr id off) = (cellsAt h id).bind fun cs => (cut cs off 3).map .agg := ld_ptra ag61 sz61
theorem li61 {h : AH} {off : Nat} {cs : List AV} : loadA Tryd.prog h 61 (.ipt cs off) = (cut cs off 3).map .agg := by simp only [loadA, ag61, sz61]
theorem al61 {h : AH} {v : AV} : allocA Tryd.prog h 61 v = newVarA h v := al_no (by kernel_rfl)
theorem zr61 : zeroA Tryd.prog 61 = some (.agg [.nilslice, .int .i64 0, .nilslice]) := by kernel_rfl
theorem bd61 {ps : List (Nat × AV)} : buildA Tryd.prog 61 ps = (fillA (fun i => [(0, 2), (2, 1)][i]?) [.nilslice, .int .i64 0, .nilslice] ps).map .agg := by kernel_rfl
theorem fa61_0 {id off : Nat} : fieldAddrA Tryd.prog 61 (.ptr id off) 0 = some (.ptr id (off + 0)) := by kernel_rfl
theorem fi61_0 {cs : List AV} {off : Nat} : fieldAddrA Tryd.prog 61 (.ipt cs off) 0 = some (.ipt cs (off + 0)) := by kernel_rfl
theorem fb61_0 {cs : List AV} : fieldA Tryd.prog 61 (.agg cs) 0 = some (.agg ((cs.drop 0).take 2)) := by kernel_rfl
theorem fa61_1 {id off : Nat} : fieldAddrA Tryd.prog 61 (.ptr id off) 1 = some (.ptr id (off + 2)) := by kernel_rfl
theorem fi61_1 {cs : List AV} {off : Nat} : fieldAddrA Tryd.prog 61 (.ipt cs off) 1 = some (.ipt cs (off + 2)) := by kernel_rfl
theorem fb61_1 {cs : List AV} : fieldA Tryd.prog 61 (.agg cs) 1 = cs[2]? := by kernel_rfl
theorem u64 : Tryd.prog.underlying 64 = some (.slice 87) := by kernel_rfl
theorem al64 {h : AH} {v : AV} : allocA Tryd.prog h 64 v = newVarA h v := al_no (by kernel_rfl)
theorem zr64 : zeroA Tryd.prog 64 = some (.nilslice) := by kernel_rfl
theorem ln64 {h : AH} {n : Nat} {cs : List AV} : builtinA Tryd.prog h .len [64] [.lst n cs] = some (.int .i64 n, h) := ln_lst u64
theorem ln64n {h : AH} : builtinA Tryd.prog h .len [64] [.nilslice] = some (.int .i64 (0 : Nat), h) := ln_nil u64
theorem ln64s {h : AH} {id off n : Nat} {c : Cap} : builtinA Tryd.prog h .len [64] [.slice id off n c] = some (.int .i64 n, h) := ln_slice u64
theorem ln64e {h : AH} {id off n : Nat} : builtinA Tryd.prog h .len [64] [.empty id off n] = some (.int .i64 (0 : Nat), h) := by simp [builtinA, lenA, u64]
theorem ix64 {k : IntKind} {n i : Nat} {cs : List AV} (hi : i < n) : indexAddrA Tryd.prog 64 (.lst n cs) (.int k i) = some (.ipt cs (i * 4)) := ix_lstz u64 sz87 hi
theorem ix64s {k : IntKind} {id off n i : Nat} {c : Cap} (hi : i < n) : indexAddrA Tryd.prog 64 (.slice id off n c) (.int k i) = some (.ptr id (off + i * 4)) := by simp only [indexAddrA, u64, sz87]; rw [decide_eq_true (by omega)]; simp
theorem ap64 : AppTy Tryd.prog 64 87 4 := ⟨by kernel_rfl, u64, by kernel_rfl, by kernel_rfl, by decide, by kernel_rfl⟩
theorem bs0_64 {h : AH} : buildSliceA Tryd.prog h 64 0 [] = some (.slice h.n 0 0 (.exact 0), h.push (.cells [] false)) := by kernel_rfl
theorem la67 {h : AH} {id off : Nat} : loadA Tryd.prog h 67 (.ptr id off) = (cellsAt h id).bind fun cs => (cut cs off 3).map .agg := ld_ptra ag67 sz67
theorem li67 {h : AH} {off : Nat} {cs : List AV} : loadA Tryd.prog h 67 (.ipt cs off) = (cut cs off 3).map .agg := by simp only [loadA, ag67, sz67]
theorem al67 {h : AH} {v : AV} : allocA Tryd.prog h 67 v = newVarA h v := al_no (by kernel_rfl)
theorem zr67 : zeroA Tryd.prog 67 = some (.agg [.int .i64 0, .int .i64 0, .str ⟨#[]⟩]) := by kernel_rfl
theorem bd67 {ps : List (Nat × AV)} : buildA Tryd.prog 67 ps = (fillA (fun i => [(0, 1), (1, 1), (2, 1)][i]?) [.int .i64 0, .int .i64 0, .str ⟨#[]⟩] ps).map .agg := by kernel_rfl
theorem fa67_0 {id off : Nat} : fieldAddrA Tryd.prog 67 (.ptr id off) 0 = some (.ptr id (off + 0)) := by kernel_rfl
theorem fi67_0 {cs : List AV} {off : Nat} : fieldAddrA Tryd.prog 67 (.ipt cs off) 0 = some (.ipt cs (off + 0)) := by kernel_rfl
theorem fb67_0 {cs : List AV} : fieldA Tryd.prog 67 (.agg cs) 0 = cs[0]? := by kernel_rfl
theorem fa67_1 {id off : Nat} : fieldAddrA Tryd.prog 67 (.ptr id off) 1 = some (.ptr id (off + 1)) := by kernel_rfl
theorem fi67_1 {cs : List AV} {off : Nat} : fieldAddrA Tryd.prog 67 (.ipt cs off) 1 = some (.ipt cs (off + 1)) := by kernel_rfl
theorem fb67_1 {cs : List AV} : fieldA Tryd.prog 67 (.agg cs) 1 = cs[1]? := by kernel_rfl
theorem fa67_2 {id off : Nat} : fieldAddrA Tryd.prog 67 (.ptr id off) 2 = some (.ptr id (off + 2)) := by kernel_rfl
theorem fi67_2 {cs : List AV} {off : Nat} : fieldAddrA Tryd.prog 67 (.ipt cs off) 2 = some (.ipt cs (off + 2)) := by kernel_rfl
theorem fb67_2 {cs : List AV} : fieldA Tryd.prog 67 (.agg cs) 2 = cs[2]? := by kernel_rfl
theorem la69 {h : AH} {id off : Nat} : loadA Tryd.prog h 69 (.ptr id off) = (cellsAt h id).bind fun cs => (cut cs off 3).map .agg := ld_ptra ag69 sz69
theorem li69 {h : AH} {off : Nat} {cs : List AV} : loadA Tryd.prog h 69 (.ipt cs off) = (cut cs off 3).map .agg := by simp only [loadA, ag69, sz69]
theorem al69 {h : AH} {v : AV} : allocA Tryd.prog h 69 v = newVarA h v := al_no (by kernel_rfl)
theorem zr69 : zeroA Tryd.prog 69 = some (.agg [.int .i64 0, .bool false, .bool false]) := by kernel_rfl
theorem bd69 {ps : List (Nat × AV)} : buildA Tryd.prog 69 ps = (fillA (fun i => [(0, 1), (1, 1), (2, 1)][i]?) [.int .i64 0, .bool false, .bool false] ps).map .agg := by kernel_rfl
theorem fa69_0 {id off : Nat} : fieldAddrA Tryd.prog 69 (.ptr id off) 0 = some (.ptr id (off + 0)) := by kernel_rfl
theorem fi69_0 {cs : List AV} {off : Nat} : fieldAddrA Tryd.prog 69 (.ipt cs off) 0 = some (.ipt cs (off + 0)) := by kernel_rfl
theorem fb69_0 {cs : List AV} : fieldA Tryd.prog 69 (.agg cs) 0 = cs[0]? := by kernel_rfl
theorem fa69_1 {id off : Nat} : fieldAddrA Tryd.prog 69 (.ptr id off) 1 = some (.ptr id (off + 1)) := by kernel_rfl
theorem fi69_1 {cs : List AV} {off : Nat} : fieldAddrA Tryd.prog 69 (.ipt cs off) 1 = some (.ipt cs (off + 1)) := by kernel_rfl
theorem fb69_1 {cs : List AV} : fieldA Tryd.prog 69 (.agg cs) 1 = cs[1]? := by kernel_rfl
theorem fa69_2 {id off : Nat} : fieldAddrA Tryd.prog 69 (.ptr id off) 2 = some (.ptr id (off + 2)) := by kernel_rfl
theorem fi69_2 {cs : List AV} {off : Nat} : fieldAddrA Tryd.prog 69 (.ipt cs off) 2 = some (.ipt cs (off + 2)) := by kernel_rfl
theorem fb69_2 {cs : List AV} : fieldA Tryd.prog 69 (.agg cs) 2 = cs[2]? := by kernel_rfl
theorem u75 : Tryd.prog.underlying 75 = some (.pointer 78) := by kernel_rfl
theorem al75 {h : AH} {v : AV} : allocA Tryd.prog h 75 v = newVarA h v := al_no (by kernel_rfl)
theorem zr75 : zeroA Tryd.prog 75 = some (.nilptr) := by kernel_rfl
theorem u76 : Tryd.prog.underlying 76 = some (.slice 5) := by kernel_rfl
theorem al76 {h : AH} {v : AV} : allocA Tryd.prog h 76 v = newVarA h v := al_no (by kernel_rfl)
theorem zr76 : zeroA Tryd.prog 76 = some (.nilslice) := by kernel_rfl
theorem ln76 {h : AH} {n : Nat} {cs : List AV} : builtinA Tryd.prog h .len [76] [.lst n cs] = some (.int .i64 n, h) := ln_lst u76
theorem ln76n {h : AH} : builtinA Tryd.prog h .len [76] [.nilslice] = some (.int .i64 (0 : Nat), h) := ln_nil u76
theorem ln76s {h : AH} {id off n : Nat} {c : Cap} : builtinA Tryd.prog h .len [76] [.slice id off n c] = some (.int .i64 n, h) := ln_slice u76
theorem ln76e {h : AH} {id off n : Nat} : builtinA Tryd.prog h .len [76] [.empty id off n] = some (.int .i64 (0 : Nat), h) := by simp [builtinA, lenA, u76]
theorem ix76 {k : IntKind} {n i : Nat} {cs : List AV} (hi : i < n) : indexAddrA Tryd.prog 76 (.lst n cs) (.int k i) = some (.ipt cs i) := ix_lst u76 sz5 hi
theorem ix76s {k : IntKind} {id off n i : Nat} {c : Cap} (hi : i < n) : indexAddrA Tryd.prog 76 (.slice id off n c) (.int k i) = some (.ptr id (off + i)) := by simp only [indexAddrA, u76, sz5]; rw [decide_eq_true (by omega)]; simp
theorem bs0_76 {h : AH} : buildSliceA Tryd.prog h 76 0 [] = some (.slice h.n 0 0 (.exact 0), h.push (.cells [] false)) := by kernel_rfl
theorem bs1_76 {h : AH} {v : AV} (hv : v.box = some [v]) : buildSliceA Tryd.prog h 76 1 [(0, v)] = some (.slice h.n 0 1 (.exact 1), h.push (.cells [v] false)) := by
  have e : buildSliceA Tryd.prog h 76 1 [(0, v)] = (match fillA (fun i => some (i * 1, 1)) [.int .u8 0] [(0, v)] with | some cs => some (.slice h.n 0 1 (.exact 1), h.push (.cells cs false)) | none => none) := by kernel_rfl
  rw [e]; simp [fillA, hv, splice]
theorem bs1_76i {h : AH} {k : IntKind} {x : Int} : buildSliceA Tryd.prog h 76 1 [(0, .int k x)] = some (.slice h.n 0 1 (.exact 1), h.push (.cells [.int k x] false)) := bs1_76 rfl
theorem bs2_76 {h : AH} {v w : AV} (hv : v.box = some [v]) (hw : w.box = some [w]) : buildSliceA Tryd.prog h 76 2 [(0, v), (1, w)] = some (.slice h.n 0 2 (.exact 2), h.push (.cells [v, w] false)) := by
  have e : buildSliceA Tryd.prog h 76 2 [(0, v), (1, w)] = (match fillA (fun i => some (i * 1, 1)) [.int .u8 0, .int .u8 0] [(0, v), (1, w)] with | some cs => some (.slice h.n 0 2 (.exact 2), h.push (.cells cs false)) | none => none) := by kernel_rfl
  rw [e]; simp [fillA, hv, hw, splice]
theorem bs2_76i {h : AH} {k : IntKind} {x : Int} {k' : IntKind} {x' : Int} : buildSliceA Tryd.prog h 76 2 [(0, .int k x), (1, .int k' x')] = some (.slice h.n 0 2 (.exact 2), h.push (.cells [.int k x, .int k' x'] false)) := bs2_76 rfl rfl
theorem la78 {h : AH} {id off : Nat} : loadA Tryd.prog h 78 (.ptr id off) = (cellsAt h id).bind fun cs => (cut cs off 2).map .agg := ld_ptra ag78 sz78
theorem li78 {h : AH} {off : Nat} {cs : List AV} : loadA Tryd.prog h 78 (.ipt cs off) = (cut cs off 2).map .agg := by simp only [loadA, ag78, sz78]
theorem zr78 : zeroA Tryd.prog 78 = some (.agg [.nilptr, .nilslice]) := by kernel_rfl
theorem bd78 {ps : List (Nat × AV)} : buildA Tryd.prog 78 ps = (fillA (fun i => [(0, 1), (1, 1)][i]?) [.nilptr, .nilslice] ps).map .agg := by kernel_rfl
theorem fa78_0 {id off : Nat} : fieldAddrA Tryd.prog 78 (.ptr id off) 0 = some (.ptr id (off + 0)) := by kernel_rfl
theorem fi78_0 {cs : List AV} {off : Nat} : fieldAddrA Tryd.prog 78 (.ipt cs off) 0 = some (.ipt cs (off + 0)) := by kernel_rfl
theorem fb78_0 {cs : List AV} : fieldA Tryd.prog 78 (.agg cs) 0 = cs[0]? := by kernel_rfl
theorem fa78_1 {id off : Nat} : fieldAddrA Tryd.prog 78 (.ptr id off) 1 = some (.ptr id (off + 1)) := by kernel_rfl
theorem fi78_1 {cs : List AV} {off : Nat} : fieldAddrA Tryd.prog 78 (.ipt cs off) 1 = some (.ipt cs (off + 1)) := by kernel_rfl
theorem fb78_1 {cs : List AV} : fieldA Tryd.prog 78 (.agg cs) 1 = cs[1]? := by kernel_rfl
theorem la87 {h : AH} {id off : Nat} : loadA Tryd.prog h 87 (.ptr id off) = (cellsAt h id).bind fun cs => (cut cs off 4).map .agg := ld_ptra ag87 sz87
theorem li87 {h : AH} {off : Nat} {cs : List AV} : loadA Tryd.prog h 87 (.ipt cs off) = (cut cs off 4).map .agg := by simp only [loadA, ag87, sz87]
theorem al87 {h : AH} {v : AV} : allocA Tryd.prog h 87 v = newVarA h v := al_no (by kernel_rfl)
theorem zr87 : zeroA Tryd.prog 87 = some (.agg [.int .i64 0, .int .i64 0, .int .i64 0, .nilslice]) := by kernel_rfl
theorem bd87 {ps : List (Nat × AV)} : buildA Tryd.prog 87 ps = (fillA (fun i => [(0, 1), (1, 1), (2, 1), (3, 1)][i]?) [.int .i64 0, .int .i64 0, .int .i64 0, .nilslice] ps).map .agg := by kernel_rfl
theorem fa87_0 {id off : Nat} : fieldAddrA Tryd.prog 87 (.ptr id off) 0 = some (.ptr id (off + 0)) := by kernel_rfl
theorem fi87_0 {cs : List AV} {off : Nat} : fieldAddrA Tryd.prog 87 (.ipt cs off) 0 = some (.ipt cs (off + 0)) := by kernel_rfl
theorem fb87_0 {cs : List AV} : fieldA Tryd.prog 87 (.agg cs) 0 = cs[0]? := by kernel_rfl
theorem fa87_1 {id off : Nat} : fieldAddrA Tryd.prog 87 (.ptr id off) 1 = some (.ptr id (off + 1)) := by kernel_rfl
theorem fi87_1 {cs : List AV} {off : Nat} : fieldAddrA Tryd.prog 87 (.ipt cs off) 1 = some (.ipt cs (off + 1)) := by kernel_rfl
theorem fb87_1 {cs : List AV} : fieldA Tryd.prog 87 (.agg cs) 1 = cs[1]? := by kernel_rfl
theorem fa87_2 {id off : Nat} : fieldAddrA Tryd.prog 87 (.ptr id off) 2 = some (.ptr id (off + 2)) := by kernel_rfl
theorem fi87_2 {cs : List AV} {off : Nat} : fieldAddrA Tryd.prog 87 (.ipt cs off) 2 = some (.ipt cs (off + 2)) := by kernel_rfl
theorem fb87_2 {cs : List AV} : fieldA Tryd.prog 87 (.agg cs) 2 = cs[2]? := by kernel_rfl
theorem fa87_3 {id off : Nat} : fieldAddrA Tryd.prog 87 (.ptr id off) 3 = some (.ptr id (off + 3)) := by kernel_rfl
theorem fi87_3 {cs : List AV} {off : Nat} : fieldAddrA Tryd.prog 87 (.ipt cs off) 3 = some (.ipt cs (off + 3)) := by kernel_rfl
theorem fb87_3 {cs : List AV} : fieldA Tryd.prog 87 (.agg cs) 3 = cs[3]? := by kernel_rfl
theorem u90 : Tryd.prog.underlying 90 = some (.map 9 3) := by kernel_rfl
theorem al90 {h : AH} {v : AV} : allocA Tryd.prog h 90 v = newVarA h v := al_no (by kernel_rfl)
theorem zr90 : zeroA Tryd.prog 90 = some (.nilmap) := by kernel_rfl
theorem u91 : Tryd.prog.underlying 91 = some (.map 3 9) := by kernel_rfl
theorem al91 {h : AH} {v : AV} : allocA Tryd.prog h 91 v = newVarA h v := al_no (by kernel_rfl)
theorem zr91 : zeroA Tryd.prog 91 = some (.nilmap) := by kernel_rfl
theorem la93 {h : AH} {id off : Nat} : loadA Tryd.prog h 93 (.ptr id off) = (cellsAt h id).bind fun cs => (cut cs off 4).map .agg := ld_ptra ag93 sz93
theorem li93 {h : AH} {off : Nat} {cs : List AV} : loadA Tryd.prog h 93 (.ipt cs off) = (cut cs off 4).map .agg := by simp only [loadA, ag93, sz93]
theorem al93 {h : AH} {v : AV} : allocA Tryd.prog h 93 v = newVarA h v := al_no (by kernel_rfl)
theorem zr93 : zeroA Tryd.prog 93 = some (.agg [.nilslice, .int .i64 0, .nilmap, .nilmap]) := by kernel_rfl
theorem bd93 {ps : List (Nat × AV)} : buildA Tryd.prog 93 ps = (fillA (fun i => [(0, 2), (2, 1), (3, 1)][i]?) [.nilslice, .int .i64 0, .nilmap, .nilmap] ps).map .agg := by kernel_rfl
theorem fa93_0 {id off : Nat} : fieldAddrA Tryd.prog 93 (.ptr id off) 0 = some (.ptr id (off + 0)) := by kernel_rfl
theorem fi93_0 {cs : List AV} {off : Nat} : fieldAddrA Tryd.prog 93 (.ipt cs off) 0 = some (.ipt cs (off + 0)) := by kernel_rfl
theorem fb93_0 {cs : List AV} : fieldA Tryd.prog 93 (.agg cs) 0 = some (.agg ((cs.drop 0).take 2)) := by kernel_rfl
theorem fa93_1 {id off : Nat} : fieldAddrA Tryd.prog 93 (.ptr id off) 1 = some (.ptr id (off + 2)) := by kernel_rfl
theorem fi93_1 {cs : List AV} {off : Nat} : fieldAddrA Tryd.prog 93 (.ipt cs off) 1 = some (.ipt cs (off + 2)) := by kernel_rfl
theorem fb93_1 {cs : List AV} : fieldA Tryd.prog 93 (.agg cs) 1 = cs[2]? := by kernel_rfl
theorem fa93_2 {id off : Nat} : fieldAddrA Tryd.prog 93 (.ptr id off) 2 = some (.ptr id (off + 3)) := by kernel_rfl
theorem fi93_2 {cs : List AV} {off : Nat} : fieldAddrA Tryd.prog 93 (.ipt cs off) 2 = some (.ipt cs (off + 3)) := by kernel_rfl
theorem fb93_2 {cs : List AV} : fieldA Tryd.prog 93 (.agg cs) 2 = cs[3]? := by kernel_rfl
theorem u96 : Tryd.prog.underlying 96 = some (.slice 23) := by kernel_rfl
theorem al96 {h : AH} {v : AV} : allocA Tryd.prog h 96 v = newVarA h v := al_no (by kernel_rfl)
theorem zr96 : zeroA Tryd.prog 96 = some (.nilslice) := by kernel_rfl
theorem ln96 {h : AH} {n : Nat} {cs : List AV} : builtinA Tryd.prog h .len [96] [.lst n cs] = some (.int .i64 n, h) := ln_lst u96
theorem ln96n {h : AH} : builtinA Tryd.prog h .len [96] [.nilslice] = some (.int .i64 (0 : Nat), h) := ln_nil u96
theorem ln96s {h : AH} {id off n : Nat} {c : Cap} : builtinA Tryd.prog h .len [96] [.slice id off n c] = some (.int .i64 n, h) := ln_slice u96
theorem ln96e {h : AH} {id off n : Nat} : builtinA Tryd.prog h .len [96] [.empty id off n] = some (.int .i64 (0 : Nat), h) := by simp [builtinA, lenA, u96]
theorem ix96 {k : IntKind} {n i : Nat} {cs : List AV} (hi : i < n) : indexAddrA Tryd.prog 96 (.lst n cs) (.int k i) = some (.ipt cs i) := ix_lst u96 sz23 hi
theorem ix96s {k : IntKind} {id off n i : Nat} {c : Cap} (hi : i < n) : indexAddrA Tryd.prog 96 (.slice id off n c) (.int k i) = some (.ptr id (off + i)) := by simp only [indexAddrA, u96, sz23]; rw [decide_eq_true (by omega)]; simp
theorem ap96 : AppTy Tryd.prog 96 23 1 := ⟨by kernel_rfl, u96, by kernel_rfl, by kernel_rfl, by decide, by kernel_rfl⟩
theorem bs0_96 {h : AH} : buildSliceA Tryd.prog h 96 0 [] = some (.slice h.n 0 0 (.exact 0), h.push (.cells [] false)) := by kernel_rfl
theorem bs1_96 {h : AH} {v : AV} (hv : v.box = some [v]) : buildSliceA Tryd.prog h 96 1 [(0, v)] = some (.slice h.n 0 1 (.exact 1), h.push (.cells [v] false)) := by
  have e : buildSliceA Tryd.prog h 96 1 [(0, v)] = (match fillA (fun i => some (i * 1, 1)) [.int .i64 0] [(0, v)] with | some cs => some (.slice h.n 0 1 (.exact 1), h.push (.cells cs false)) | none => none) := by kernel_rfl
  rw [e]; simp [fillA, hv, splice]
theorem bs1_96i {h : AH} {k : IntKind} {x : Int} : buildSliceA Tryd.prog h 96 1 [(0, .int k x)] = some (.slice h.n 0 1 (.exact 1), h.push (.cells [.int k x] false)) := bs1_96 rfl
theorem bs2_96 {h : AH} {v w : AV} (hv : v.box = some [v]) (hw : w.box = some [w]) : buildSliceA Tryd.prog h 96 2 [(0, v), (1, w)] = some (.slice h.n 0 2 (.exact 2), h.push (.cells [v, w] false)) := by
  have e : buildSliceA Tryd.prog h 96 2 [(0, v), (1, w)] = (match fillA (fun i => some (i * 1, 1)) [.int .i64 0, .int .i64 0] [(0, v), (1, w)] with | some cs => some (.slice h.n 0 2 (.exact 2), h.push (.cells cs false)) | none => none) := by kernel_rfl
  rw [e]; simp [fillA, hv, hw, splice]
theorem bs2_96i {h : AH} {k : IntKind} {x : Int} {k' : IntKind} {x' : Int} : buildSliceA Tryd.prog h 96 2 [(0, .int k x), (1, .int k' x')] = some (.slice h.n 0 2 (.exact 2), h.push (.cells [.int k x, .int k' x'] false)) := bs2_96 rfl rfl
theorem u107 : Tryd.prog.underlying 107 = some (.map 3 5) := by kernel_rfl
theorem al107 {h : AH} {v : AV} : allocA Tryd.prog h 107 v = newVarA h v := al_no (by kernel_rfl)
theorem zr107 : zeroA Tryd.prog 107 = some (.nilmap) := by kernel_rfl
theorem la110 {h : AH} {id off : Nat} : loadA Tryd.prog h 110 (.ptr id off) = (cellsAt h id).bind fun cs => (cut cs off 3).map .agg := ld_ptra ag110 sz110
theorem li110 {h : AH} {off : Nat} {cs : List AV} : loadA Tryd.prog h 110 (.ipt cs off) = (cut cs off 3).map .agg := by simp only [loadA, ag110, sz110]
theorem al110 {h : AH} {v : AV} : allocA Tryd.prog h 110 v = newVarA h v := al_no (by kernel_rfl)
theorem zr110 : zeroA Tryd.prog 110 = some (.agg [.str ⟨#[]⟩, .int .i64 0, .int .i64 0]) := by kernel_rfl
theorem bd110 {ps : List (Nat × AV)} : buildA Tryd.prog 110 ps = (fillA (fun i => [(0, 1), (1, 1), (2, 1)][i]?) [.str ⟨#[]⟩, .int .i64 0, .int .i64 0] ps).map .agg := by kernel_rfl
theorem fa110_0 {id off : Nat} : fieldAddrA Tryd.prog 110 (.ptr id off) 0 = some (.ptr id (off + 0)) := by kernel_rfl
theorem fi110_0 {cs : List AV} {off : Nat} : fieldAddrA Tryd.prog 110 (.ipt cs off) 0 = some (.ipt cs (off + 0)) := by kernel_rfl
theorem fb110_0 {cs : List AV} : fieldA Tryd.prog 110 (.agg cs) 0 = cs[0]? := by kernel_rfl
theorem fa110_1 {id off : Nat} : fieldAddrA Tryd.prog 110 (.ptr id off) 1 = some (.ptr id (off + 1)) := by kernel_rfl
theorem fi110_1 {cs : List AV} {off : Nat} : fieldAddrA Tryd.prog 110 (.ipt cs off) 1 = some (.ipt cs (off + 1)) := by kernel_rfl
theorem fb110_1 {cs : List AV} : fieldA Tryd.prog 110 (.agg cs) 1 = cs[1]? := by kernel_rfl
theorem fa110_2 {id off : Nat} : fieldAddrA Tryd.prog 110 (.ptr id off) 2 = some (.ptr id (off + 2)) := by kernel_rfl
theorem fi110_2 {cs : List AV} {off : Nat} : fieldAddrA Tryd.prog 110 (.ipt cs off) 2 = some (.ipt cs (off + 2)) := by kernel_rfl
theorem fb110_2 {cs : List AV} : fieldA Tryd.prog 110 (.agg cs) 2 = cs[2]? := by kernel_rfl
theorem u115 : Tryd.prog.underlying 115 = some (.pointer 117) := by kernel_rfl
theorem al115 {h : AH} {v : AV} : allocA Tryd.prog h 115 v = newVarA h v := al_no (by kernel_rfl)
theorem zr115 : zeroA Tryd.prog 115 = some (.nilptr) := by kernel_rfl
theorem la117 {h : AH} {id off : Nat} : loadA Tryd.prog h 117 (.ptr id off) = (cellsAt h id).bind fun cs => (cut cs off 1).map .agg := ld_ptra ag117 sz117
theorem li117 {h : AH} {off : Nat} {cs : List AV} : loadA Tryd.prog h 117 (.ipt cs off) = (cut cs off 1).map .agg := by simp only [loadA, ag117, sz117]
theorem al117 {h : AH} {v : AV} : allocA Tryd.prog h 117 v = newVarA h v := al_no (by kernel_rfl)
theorem zr117 : zeroA Tryd.prog 117 = some (.agg [.int .i64 0]) := by kernel_rfl
theorem bd117 {ps : List (Nat × AV)} : buildA Tryd.prog 117 ps = (fillA (fun i => [(0, 1)][i]?) [.int .i64 0] ps).map .agg := by kernel_rfl
theorem fa117_0 {id off : Nat} : fieldAddrA Tryd.prog 117 (.ptr id off) 0 = some (.ptr id (off + 0)) := by kernel_rfl
theorem fi117_0 {cs : List AV} {off : Nat} : fieldAddrA Tryd.prog 117 (.ipt cs off) 0 = some (.ipt cs (off + 0)) := by kernel_rfl
theorem fb117_0 {cs : List AV} : fieldA Tryd.prog 117 (.agg cs) 0 = cs[0]? := by kernel_rfl
theorem u119 : Tryd.prog.underlying 119 = some (.slice 49) := by kernel_rfl
theorem al119 {h : AH} {v : AV} : allocA Tryd.prog h 119 v = newVarA h v := al_no (by kernel_rfl)
theorem zr119 : zeroA Tryd.prog 119 = some (.nilslice) := by kernel_rfl
theorem ln119 {h : AH} {n : Nat} {cs : List AV} : builtinA Tryd.prog h .len [119] [.lst n cs] = some (.int .i64 n, h) := ln_lst u119
theorem ln119n {h : AH} : builtinA Tryd.prog h .len [119] [.nilslice] = some (.int .i64 (0 : Nat), h) := ln_nil u119
theorem ln119s {h : AH} {id off n : Nat} {c : Cap} : builtinA Tryd.prog h .len [119] [.slice id off n c] = some (.int .i64 n, h) := ln_slice u119
theorem ln119e {h : AH} {id off n : Nat} : builtinA Tryd.prog h .len [119] [.empty id off n] = some (.int .i64 (0 : Nat), h) := by simp [builtinA, lenA, u119]
theorem ix119 {k : IntKind} {n i : Nat} {cs : List AV} (hi : i < n) : indexAddrA Tryd.prog 119 (.lst n cs) (.int k i) = some (.ipt cs i) := ix_lst u119 sz49 hi
theorem ix119s {k : IntKind} {id off n i : Nat} {c : Cap} (hi : i < n) : indexAddrA Tryd.prog 119 (.slice id off n c) (.int k i) = some (.ptr id (off + i)) := by simp only [indexAddrA, u119, sz49]; rw [decide_eq_true (by omega)]; simp
theorem ap119 : AppTy Tryd.prog 119 49 1 := ⟨by kernel_rfl, u119, by kernel_rfl, by kernel_rfl, by decide, by kernel_rfl⟩
theorem bs0_119 {h : AH} : buildSliceA Tryd.prog h 119 0 [] = some (.slice h.n 0 0 (.exact 0), h.push (.cells [] false)) := by kernel_rfl
theorem bs1_119 {h : AH} {v : AV} (hv : v.box = some [v]) : buildSliceA Tryd.prog h 119 1 [(0, v)] = some (.slice h.n 0 1 (.exact 1), h.push (.cells [v] false)) := by
  have e : buildSliceA Tryd.prog h 119 1 [(0, v)] = (match fillA (fun i => some (i * 1, 1)) [.nilslice] [(0, v)] with | some cs => some (.slice h.n 0 1 (.exact 1), h.push (.cells cs false)) | none => none) := by kernel_rfl
  rw [e]; simp [fillA, hv, splice]
theorem bs1_119l {h : AH} {n : Nat} {cs : List AV} : buildSliceA Tryd.prog h 119 1 [(0, .lst n cs)] = some (.slice h.n 0 1 (.exact 1), h.push (.cells [.lst n cs] false)) := bs1_119 rfl
theorem bs1_119s {h : AH} {i o n : Nat} {c : Cap} : buildSliceA Tryd.prog h 119 1 [(0, .slice i o n c)] = some (.slice h.n 0 1 (.exact 1), h.push (.cells [.slice i o n c] false)) := bs1_119 rfl
theorem bs1_119n {h : AH}  : buildSliceA Tryd.prog h 119 1 [(0, .nilslice)] = some (.slice h.n 0 1 (.exact 1), h.push (.cells [.nilslice] false)) := bs1_119 rfl
theorem bs2_119 {h : AH} {v w : AV} (hv : v.box = some [v]) (hw : w.box = some [w]) : buildSliceA Tryd.prog h 119 2 [(0, v), (1, w)] = some (.slice h.n 0 2 (.exact 2), h.push (.cells [v, w] false)) := by
  have e : buildSliceA Tryd.prog h 119 2 [(0, v), (1, w)] = (match fillA (fun i => some (i * 1, 1)) [.nilslice, .nilslice] [(0, v), (1, w)] with | some cs => some (.slice h.n 0 2 (.exact 2), h.push (.cells cs false)) | none => none) := by kernel_rfl
  rw [e]; simp [fillA, hv, hw, splice]
theorem bs2_119l {h : AH} {n : Nat} {cs : List AV} {n' : Nat} {cs' : List AV} : buildSliceA Tryd.prog h 119 2 [(0, .lst n cs), (1, .lst n' cs')] = some (.slice h.n 0 2 (.exact 2), h.push (.cells [.lst n cs, .lst n' cs'] false)) := bs2_119 rfl rfl
theorem bs2_119s {h : AH} {i o n : Nat} {c : Cap} {i' o' n' : Nat} {c' : Cap} : buildSliceA Tryd.prog h 119 2 [(0, .slice i o n c), (1, .slice i' o' n' c')] = some (.slice h.n 0 2 (.exact 2), h.push (.cells [.slice i o n c, .slice i' o' n' c'] false)) := bs2_119 rfl rfl
theorem la135 {h : AH} {id off : Nat} : loadA Tryd.prog h 135 (.ptr id off) = (cellsAt h id).bind fun cs => (cut cs off 24).map .agg := ld_ptra ag135 sz135
theorem li135 {h : AH} {off : Nat} {cs : List AV} : loadA Tryd.prog h 135 (.ipt cs off) = (cut cs off 24).map .agg := by simp only [loadA, ag135, sz135]
theorem al135 {h : AH} {v : AV} : allocA Tryd.prog h 135 v = newVarA h v := al_no (by kernel_rfl)
theorem zr135 : zeroA Tryd.prog 135 = some (.agg [.int .u8 0, .int .u8 0, .int .u8 0, .int .u8 0, .int .u8 0, .int .u8 0, .int .u8 0, .int .u8 0, .int .u8 0, .int .u8 0, .int .u8 0, .int .u8 0, .int .u8 0, .int .u8 0, .int .u8 0, .int .u8 0, .int .u8 0, .int .u8 0, .int .u8 0, .int .u8 0, .int .u8 0, .int .u8 0, .int .u8 0, .int .u8 0]) := by kernel_rfl
theorem u136 : Tryd.prog.underlying 136 = some (.int .u64) := by kernel_rfl
theorem al136 {h : AH} {v : AV} : allocA Tryd.prog h 136 v = newVarA h v := al_no (by kernel_rfl)
theorem zr136 : zeroA Tryd.prog 136 = some (.int .u64 0) := by kernel_rfl
theorem la143 {h : AH} {id off : Nat} : loadA Tryd.prog h 143 (.ptr id off) = (cellsAt h id).bind fun cs => (cut cs off 20).map .agg := ld_ptra ag143 sz143
theorem li143 {h : AH} {off : Nat} {cs : List AV} : loadA Tryd.prog h 143 (.ipt cs off) = (cut cs off 20).map .agg := by simp only [loadA, ag143, sz143]
theorem al143 {h : AH} {v : AV} : allocA Tryd.prog h 143 v = newVarA h v := al_no (by kernel_rfl)
theorem zr143 : zeroA Tryd.prog 143 = some (.agg [.int .u64 0, .int .u64 0, .int .u64 0, .int .u64 0, .int .u64 0, .int .u64 0, .int .u64 0, .int .u64 0, .int .u64 0, .int .u64 0, .int .u64 0, .int .u64 0, .int .u64 0, .int .u64 0, .int .u64 0, .int .u64 0, .int .u64 0, .int .u64 0, .int .u64 0, .int .u64 0]) := by kernel_rfl
theorem u144 : Tryd.prog.underlying 144 = some (.int .u32) := by kernel_rfl
theorem al144 {h : AH} {v : AV} : allocA Tryd.prog h 144 v = newVarA h v := al_no (by kernel_rfl)
theorem zr144 : zeroA Tryd.prog 144 = some (.int .u32 0) := by kernel_rfl
theorem la145 {h : AH} {id off : Nat} : loadA Tryd.prog h 145 (.ptr id off) = (cellsAt h id).bind fun cs => (cut cs off 65).map .agg := ld_ptra ag145 sz145
theorem li145 {h : AH} {off : Nat} {cs : List AV} : loadA Tryd.prog h 145 (.ipt cs off) = (cut cs off 65).map .agg := by simp only [loadA, ag145, sz145]
theorem al145 {h : AH} {v : AV} : allocA Tryd.prog h 145 v = newVarA h v := al_no (by kernel_rfl)
theorem zr145 : zeroA Tryd.prog 145 = some (.agg [.int .u8 0, .int .u8 0, .int .u8 0, .int .u8 0, .int .u8 0, .int .u8 0, .int .u8 0, .int .u8 0, .int .u8 0, .int .u8 0, .int .u8 0, .int .u8 0, .int .u8 0, .int .u8 0, .int .u8 0, .int .u8 0, .int .u8 0, .int .u8 0, .int .u8 0, .int .u8 0, .int .u8 0, .int .u8 0, .int .u8 0, .int .u8 0, .int .u8 0, .int .u8 0, .int .u8 0, .int .u8 0, .int .u8 0, .int .u8 0, .int .u8 0, .int .u8 0, .int .u8 0, .int .u8 0, .int .u8 0, .int .u8 0, .int .u8 0, .int .u8 0, .int .u8 0, .int .u8 0, .int .u8 0, .int .u8 0, .int .u8 0, .int .u8 0, .int .u8 0, .int .u8 0, .int .u8 0, .int .u8 0, .int .u8 0, .int .u8 0, .int .u8 0, .int .u8 0, .int .u8 0, .int .u8 0, .int .u8 0, .int .u8 0, .int .u8 0, .int .u8 0, .int .u8 0, .int .u8 0, .int .u8 0, .int .u8 0, .int .u8 0, .int .u8 0, .int .u8 0]) := by kernel_rfl
theorem u146 : Tryd.prog.underlying 146 = some (.int .u64) := by kernel_rfl
theorem al146 {h : AH} {v : AV} : allocA Tryd.prog h 146 v = newVarA h v := al_no (by kernel_rfl)
theorem zr146 : zeroA Tryd.prog 146 = some (.int .u64 0) := by kernel_rfl
theorem la152 {h : AH} {id off : Nat} : loadA Tryd.prog h 152 (.ptr id off) = (cellsAt h id).bind fun cs => (cut cs off 32).map .agg := ld_ptra ag152 sz152
theorem li152 {h : AH} {off : Nat} {cs : List AV} : loadA Tryd.prog h 152 (.ipt cs off) = (cut cs off 32).map .agg := by simp only [loadA, ag152, sz152]
theorem al152 {h : AH} {v : AV} : allocA Tryd.prog h 152 v = newVarA h v := al_no (by kernel_rfl)
theorem zr152 : zeroA Tryd.prog 152 = some (.agg [.int .u8 0, .int .u8 0, .int .u8 0, .int .u8 0, .int .u8 0, .int .u8 0, .int .u8 0, .int .u8 0, .int .u8 0, .int .u8 0, .int .u8 0, .int .u8 0, .int .u8 0, .int .u8 0, .int .u8 0, .int .u8 0, .int .u8 0, .int .u8 0, .int .u8 0, .int .u8 0, .int .u8 0, .int .u8 0, .int .u8 0, .int .u8 0, .int .u8 0, .int .u8 0, .int .u8 0, .int .u8 0, .int .u8 0, .int .u8 0, .int .u8 0, .int .u8 0]) := by kernel_rfl
theorem la153 {h : AH} {id off : Nat} : loadA Tryd.prog h 153 (.ptr id off) = (cellsAt h id).bind fun cs => (cut cs off 64).map .agg := ld_ptra ag153 sz153
theorem li153 {h : AH} {off : Nat} {cs : List AV} : loadA Tryd.prog h 153 (.ipt cs off) = (cut cs off 64).map .agg := by simp only [loadA, ag153, sz153]
theorem al153 {h : AH} {v : AV} : allocA Tryd.prog h 153 v = newVarA h v := al_no (by kernel_rfl)
theorem zr153 : zeroA Tryd.prog 153 = some (.agg [.int .u8 0, .int .u8 0, .int .u8 0, .int .u8 0, .int .u8 0, .int .u8 0, .int .u8 0, .int .u8 0, .int .u8 0, .int .u8 0, .int .u8 0, .int .u8 0, .int .u8 0, .int .u8 0, .int .u8 0, .int .u8 0, .int .u8 0, .int .u8 0, .int .u8 0, .int .u8 0, .int .u8 0, .int .u8 0, .int .u8 0, .int .u8 0, .int .u8 0, .int .u8 0, .int .u8 0, .int .u8 0, .int .u8 0, .int .u8 0, .int .u8 0, .int .u8 0, .int .u8 0, .int .u8 0, .int .u8 0, .int .u8 0, .int .u8 0, .int .u8 0, .int .u8 0, .int .u8 0, .int .u8 0, .int .u8 0, .int .u8 0, .int .u8 0, .int .u8 0, .int .u8 0, .int .u8 0, .int .u8 0, .int .u8 0, .int .u8 0, .int .u8 0, .int .u8 0, .int .u8 0, .int .u8 0, .int .u8 0, .int .u8 0, .int .u8 0, .int .u8 0, .int .u8 0, .int .u8 0, .int .u8 0, .int .u8 0, .int .u8 0, .int .u8 0]) := by kernel_rfl
theorem cv2_136 {k : IntKind} {n : Int} : convertA Tryd.prog 2 136 (.int k n) = some (.int .u64 (IntKind.wrap .u64 n)) := by kernel_rfl
theorem cv3_136 {k : IntKind} {n : Int} : convertA Tryd.prog 3 136 (.int k n) = some (.int .u64 (IntKind.wrap .u64 n)) := by kernel_rfl
theorem cv3_146 {k : IntKind} {n : Int} : convertA Tryd.prog 3 146 (.int k n) = some (.int .u64 (IntKind.wrap .u64 n)) := by kernel_rfl
theorem cv5_3 {k : IntKind} {n : Int} : convertA Tryd.prog 5 3 (.int k n) = some (.int .i64 (IntKind.wrap .i64 n)) := by kernel_rfl
theorem cv5_144 {k : IntKind} {n : Int} : convertA Tryd.prog 5 144 (.int k n) = some (.int .u32 (IntKind.wrap .u32 n)) := by kernel_rfl
theorem cv136_5 {k : IntKind} {n : Int} : convertA Tryd.prog 136 5 (.int k n) = some (.int .u8 (IntKind.wrap .u8 n)) := by kernel_rfl
theorem cv136_144 {k : IntKind} {n : Int} : convertA Tryd.prog 136 144 (.int k n) = some (.int .u32 (IntKind.wrap .u32 n)) := by kernel_rfl
theorem cv144_5 {k : IntKind} {n : Int} : convertA Tryd.prog 144 5 (.int k n) = some (.int .u8 (IntKind.wrap .u8 n)) := by kernel_rfl
theorem cv146_144 {k : IntKind} {n : Int} : convertA Tryd.prog 146 144 (.int k n) = some (.int .u32 (IntKind.wrap .u32 n)) := by kernel_rfl
theorem ixt9 {k : IntKind} {s : ByteArray} {i : Nat} (hi : i < s.size) : indexA Tryd.prog 9 (.str s) (.int k i) = some (.int .u8 (bAt s i)) := ix_str u9 hi
attribute [go_sem] ag2 sz2 ag3 sz3 ag4 sz4 ag5 sz5 ag9 sz9 ag23 sz23 ag29 sz29 ag30 sz30 ag31 sz31 ag33 sz33 ag49 sz49 ag51 sz51 ag55 sz55 ag56 sz56 ag58 sz58 ag59 sz59 ag61 sz61 ag64 sz64 ag67 sz67 ag69 sz69 ag75 sz75 ag76 sz76 ag78 sz78 ag87 sz87 ag90 sz90 ag91 sz91 ag93 sz93 ag96 sz96 ag107 sz107 ag110 sz110 ag115 sz115 ag117 sz117 ag119 sz119 ag135 sz135 ag136 sz136 ag143 sz143 ag144 sz144 ag145 sz145 ag146 sz146 ag152 sz152 ag153 sz153 u2 al2 zr2 u3 al3 zr3 u4 al4 zr4 eb4 nb4 u5 al5 zr5 u9 al9 zr9 u23 al23 zr23 u29 al29 zr29 ln29 ln29n ln29s ln29e ix29 ix29s bs0_29 bs1_29 bs1_29t bs2_29 bs2_29t u30 al30 zr30 ln30 ln30n ln30s ln30e ix30 ix30s bs0_30 u31 al31 zr31 ln31 ln31n ln31s ln31e ix31 ix31s bs0_31 bs1_31 bs1_31i bs2_31 bs2_31i la33 li33 al33 zr33 bd33 fa33_0 fi33_0 fb33_0 fa33_1 fi33_1 fb33_1 u49 al49 zr49 ln49 ln49n ln49s ln49e ix49 ix49s bs0_49 la51 li51 al51 zr51 bd51 fa51_0 fi51_0 fb51_0 fa51_1 fi51_1 fb51_1 fa51_2 fi51_2 fb51_2 fa51_3 fi51_3 fb51_3 fa51_4 fi51_4 fb51_4 u55 al55 zr55 ln55 ln55n ln55s ln55e ix55 ix55s bs0_55 u56 al56 zr56 ln56 ln56n ln56s ln56e ix56 ix56s bs0_56 la58 li58 al58 zr58 bd58 fa58_0 fi58_0 fb58_0 fa58_1 fi58_1 fb58_1 u59 al59 zr59 ln59 ln59n ln59s ln59e ix59 ix59s bs0_59 la61 li61 al61 zr61 bd61 fa61_0 fi61_0 fb61_0 fa61_1 fi61_1 fb61_1 u64 al64 zr64 ln64 ln64n ln64s ln64e ix64 ix64s bs0_64 la67 li67 al67 zr67 bd67 fa67_0 fi67_0 fb67_0 fa67_1 fi67_1 fb67_1 fa67_2 fi67_2 fb67_2 la69 li69 al69 zr69 bd69 fa69_0 fi69_0 fb69_0 fa69_1 fi69_1 fb69_1 fa69_2 fi69_2 fb69_2 u75 al75 zr75 u76 al76 zr76 ln76 ln76n ln76s ln76e ix76 ix76s bs0_76 bs1_76 bs1_76i bs2_76 bs2_76i la78 li78 zr78 bd78 fa78_0 fi78_0 fb78_0 fa78_1 fi78_1 fb78_1 la87 li87 al87 zr87 bd87 fa87_0 fi87_0 fb87_0 fa87_1 fi87_1 fb87_1 fa87_2 fi87_2 fb87_2 fa87_3 fi87_3 fb87_3 u90 al90 zr90 u91 al91 zr91 la93 li93 al93 zr93 bd93 fa93_0 fi93_0 fb93_0 fa93_1 fi93_1 fb93_1 fa93_2 fi93_2 fb93_2 u96 al96 zr96 ln96 ln96n ln96s ln96e ix96 ix96s bs0_96 bs1_96 bs1_96i bs2_96 bs2_96i u107 al107 zr107 la110 li110 al110 zr110 bd110 fa110_0 fi110_0 fb110_0 fa110_1 fi110_1 fb110_1 fa110_2 fi110_2 fb110_2 u115 al115 zr115 la117 li117 al117 zr117 bd117 fa117_0 fi117_0 fb117_0 u119 al119 zr119 ln119 ln119n ln119s ln119e ix119 ix119s bs0_119 bs1_119 bs1_119l bs1_119s bs1_119n bs2_119 bs2_119l bs2_119s la135 li135 al135 zr135 u136 al136 zr136 la143 li143 al143 zr143 u144 al144 zr144 la145 li145 al145 zr145 u146 al146 zr146 la152 li152 al152 zr152 la153 li153 al153 zr153 cv2_136 cv3_136 cv3_146 cv5_3 cv5_144 cv136_5 cv136_144 cv144_5 cv146_144 ixt9
end Go.Ai
