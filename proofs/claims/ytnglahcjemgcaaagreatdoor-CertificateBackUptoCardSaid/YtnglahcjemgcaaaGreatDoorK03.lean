/- Contract of the program's Lines: the lines of words of a text. Conditions: as each theorem says. A region that draws its order, walked once in an order of our choice: operations that only read are taken as early as they can come up, each other operation is waited for by all that follow it. No condition. -/
import Derived.Test.YtnglahcjemgcaaaGreatDoorK02
import Derived.Test.YtnglahcjemgcaaaGreatDoorK01
import Derived.OrdersHeld
import Derived.Deep.RegionHeld3
namespace Go.Proofs.YtnglahcjemgcaaaGreatDoor
section
open Go.RowKit Go.Shelf

attribute [local go_sem] Oper.semAt_some

/-- a line of words in memory -/
def RLn : Rd Ln := fun w S cs l => RWds (l.1 : Int) w S cs l.2
theorem RLn.ok : Rd.Ok RLn := ⟨fun h hS hw => (RSlice.ok RWd.ok).mono h hS hw⟩
abbrev RLns := RSlice 1 RLn
theorem RLns.ok : Rd.Ok RLns := RSlice.ok RLn.ok
theorem tyLn : ElemTy Tryz.prog 39 42 1 24 := ElemTy.mk' (z := .slice none 0 0) Tryz.underlying39 (by kernel_rfl) rfl (by decide)
theorem split_seq (tb sp : ByteArray) (w : World) : Calls Tryz.prog 52 #[.string tb, .string sp, .int .i64 0] w fun e w' =>
    e = .returned (.func (.func 86) #[] #[.pointer (some ⟨w.heap.size + 1, 0, none⟩), .pointer (some ⟨w.heap.size, 0, none⟩), .pointer (some ⟨w.heap.size + 2, 0, none⟩)]) ∧
      w' = ((w.alloc (.cells #[.string tb] 9)).alloc (.cells #[.string sp] 9)).alloc (.cells #[.int .i64 0] 3) := by
  go_enter Tryz.func52, Tryz.ntmps52
  go_wp2
  go_ret
  exact ⟨rfl, rfl⟩
theorem SplitSeq_any (tb sp : ByteArray) (w : World) : Calls Tryz.prog 30 #[.string tb, .string sp] w fun e w' =>
    e = .returned (.func (.func 86) #[] #[.pointer (some ⟨w.heap.size + 1, 0, none⟩), .pointer (some ⟨w.heap.size, 0, none⟩), .pointer (some ⟨w.heap.size + 2, 0, none⟩)]) ∧
      w' = ((w.alloc (.cells #[.string tb] 9)).alloc (.cells #[.string sp] 9)).alloc (.cells #[.int .i64 0] 3) := by
  go_enter Tryz.func30, Tryz.ntmps30
  go_wp2_with (go_at_call 52; refine (split_seq _ _ _).mono ?_; rintro e w' ⟨rfl, rfl⟩)
  go_ret
  exact ⟨rfl, rfl⟩
section
variable {α : Type} {t size : Nat} {E : Rd α} {w : World} {base lo : Nat} {v : Value} {l : List α}
theorem wpListIn_append_L {F : Fence} {n : Nat} {P : Program} {T bytes : Nat} (ty : ElemTy P T t size bytes) (hE : Rd.Ok E) {ops : Array Oper} {rest : List Oper} {o : Oper} {a : Act} {Q : Exit → Act → World → Prop} (hgd : o.guard = none) (s x : Operand)
    (ho : o.op = .call { callee := .builtin .append, args := #[s, x], argTypes := #[T, T] })
    (hown : OwnL t size E w base lo v l) (hs : a.eval s = v) (h : Nat) (es : List Value) (hx : a.eval x = .slice (some ⟨h, 0, none⟩) 1 1) (hblk : Blk w h t es.toArray) (hl : es.length = size)
    (y : α) {S : Foot} (hr : E w S es y) (hS : ∀ b, S b → lo ≤ b ∧ b < w.heap.size ∧ v.ownBlock ≠ some b) (h1 : ∀ u ∈ es, u.oneCell' = true) (hbytes : (l.length + 1) * bytes ≤ 140737488355328) (hlen : l.length + 1 ≤ 9223372036854775807) (hbase : base ≤ w.heap.size)
    (k : ∀ v' w', OwnL t size E w' base lo v' (l ++ [y]) → Keeps (fun b => v.ownBlock = some b) w w' → (v'.ownBlock = v.ownBlock ∨ v'.ownBlock = some w.heap.size) → wpListIn F n P ops Q rest (a.put o.dst v') w') :
    wpListIn F n P ops Q (o :: rest) a w := by
  refine wpListIn_plain hgd fun K hK' => ?_
  obtain ⟨v', w', hrun, h2, h3, h4⟩ := run_append_L ty hE o.type hown h es hblk hl y hr hS h1 hbytes hlen hbase
  unfold Oper.wpIn
  refine ⟨?_, ?_⟩
  · simp [Oper.about, ho, resolve, Target.leads, Sem.run_pure]
  · rw [Oper.semAt_plain F _ _ (by rw [ho]; intro c hc'; cases hc')]
    simp [execOp, ho, resolve, invoke, builtin, hs, hx, hrun, Result.andThen]
    exact hK' _ _ (k v' w' h2 h3 h4)
end
theorem pieces_len (l : Bs) : (piecesL l).length ≤ l.length + 1 := by
  induction l with
  | nil => simp [piecesL]
  | cons c r ih =>
    unfold piecesL
    split
    · simp; omega
    · split
      · simp
      · rename_i p q hp; rw [hp] at ih; simp at ih ⊢; omega
theorem pieces_mem (l : Bs) : ∀ p ∈ piecesL l, p.length ≤ l.length := by
  induction l with
  | nil => intro p hp; simp [piecesL] at hp; simp [hp]
  | cons c r ih =>
    intro p hp
    unfold piecesL at hp
    split at hp
    · rcases List.mem_cons.1 hp with rfl | h
      · simp
      · have := ih p h; simp; omega
    · split at hp
      · rcases List.mem_cons.1 hp with rfl | h
        · simp
        · cases h
      · rename_i p1 q hq
        rcases List.mem_cons.1 hp with rfl | h
        · have := ih p1 (by rw [hq]; simp); simp; omega
        · have := ih p (by rw [hq]; simp [h]); simp; omega
/-- Lines between two rounds: N: the heap's size where it began -/
structure LinI (w : World) (N : Nat) (src : Bs) (pre : List Bs) (W : World) (acc : List Ln) (v : Value) : Prop where
  go : ∀ rest, piecesL src = pre ++ rest → goLines (piecesL src) 1 [] = goLines rest (pre.length + 1) acc
  bl : Blk W (N + 1 + 1 + 1) 39 #[v]
  own : OwnL 42 1 RLn W (N + 10) (N + 10) v acc
  bn : Blk W (N + 1 + 1 + 1 + 1) 3 #[.int .i64 (pre.length : Int)]
  r0 : Blk W N 39 #[.slice none 0 0]
  r1 : Blk W (N + 1) 3 #[.int .i64 0]
  r2 : Blk W (N + 1 + 1) 25 #[.int .i64 0]
  keep : KeepsAll w W
  len : acc.length ≤ pre.length
structure LinX (w : World) (N : Nat) (src : Bs) (W : World) (k : Nat) (x : Int) : Prop where
  go : goLines (piecesL src) 1 [] = .inr (k, x)
  r0 : Blk W N 39 #[.slice none 0 0]
  r1 : Blk W (N + 1) 3 #[.int .i64 (k : Int)]
  r2 : Blk W (N + 1 + 1) 25 #[.int .i64 x]
  keep : KeepsAll w W
theorem LinI.turn {w : World} {N : Nat} {src : Bs} {pre : List Bs} {W W' : World} {acc : List Ln} {v : Value} {C : Foot} (h : LinI w N src pre W acc v) (hN : N = w.heap.size) (k : Keeps C W W') (hC : ∀ b, C b → N + 5 ≤ b ∧ b < N + 10) : LinI w N src pre W' acc v := by
  have hn : ∀ b, b < N + 5 → ¬ C b := fun b hb hc => by have := hC b hc; omega
  exact ⟨h.go, h.bl.kept k (hn _ (by omega)), h.own.keeps RLn.ok k (fun b _ hc => by have := hC b hc; omega), h.bn.kept k (hn _ (by omega)), h.r0.kept k (hn _ (by omega)), h.r1.kept k (hn _ (by omega)), h.r2.kept k (hn _ (by omega)), h.keep.trans k (fun b hb hc => by have := hC b hc; omega), h.len⟩
theorem LinX.turn {w : World} {N : Nat} {src : Bs} {W W' : World} {k : Nat} {x : Int} {C : Foot} (h : LinX w N src W k x) (hN : N = w.heap.size) (kk : Keeps C W W') (hC : ∀ b, C b → N + 5 ≤ b ∧ b < N + 10) : LinX w N src W' k x := by
  have hn : ∀ b, b < N + 5 → ¬ C b := fun b hb hc => by have := hC b hc; omega
  exact ⟨h.go, h.r0.kept kk (hn _ (by omega)), h.r1.kept kk (hn _ (by omega)), h.r2.kept kk (hn _ (by omega)), h.keep.trans kk (fun b hb hc => by have := hC b hc; omega)⟩
theorem linx_stores {w W W2 : World} {N : Nat} {src : Bs} {k : Nat} {x : Int} (hN : N = w.heap.size) (hgo : goLines (piecesL src) 1 [] = .inr (k, x)) (h0 : Blk W2 N 39 #[.slice none 0 0]) (h1 : Blk W2 (N + 1) 3 #[.int .i64 0]) (h2 : Blk W2 (N + 1 + 1) 25 #[.int .i64 0]) (hk : KeepsAll w W2)
    (hkc : Keeps (fun b => b < N + 5 ∨ N + 10 ≤ b) W W2) :
    Keeps (fun b => b < N + 5 ∨ N + 10 ≤ b) W (((W2.setCell ⟨N, 0, none⟩ (.slice none 0 0)).setCell ⟨N + 1, 0, none⟩ (.int .i64 (k : Int))).setCell ⟨N + 1 + 1, 0, none⟩ (.int .i64 x)).drew ∧
      ∃ k' x', LinX w N src (((W2.setCell ⟨N, 0, none⟩ (.slice none 0 0)).setCell ⟨N + 1, 0, none⟩ (.int .i64 (k : Int))).setCell ⟨N + 1 + 1, 0, none⟩ (.int .i64 x)).drew k' x' := by
  refine ⟨(((hkc.setCell (fun _ => .inl (by show N < _; omega)) _).setCell (fun _ => .inl (by show N + 1 < _; omega)) _).setCell (fun _ => .inl (by show N + 1 + 1 < _; omega)) _).drew, k, x, hgo, ?_, ?_, ?_, ?_⟩
  · exact ((h0.set_ 0 _).far (by show N ≠ N + 1; omega) _).far (by show N ≠ N + 1 + 1; omega) _
  · exact ((h1.far (by show N + 1 ≠ N; omega) _).set_ 0 _).far (by show N + 1 ≠ N + 1 + 1; omega) _
  · exact ((h2.far (by show N + 1 + 1 ≠ N; omega) _).far (by show N + 1 + 1 ≠ N + 1; omega) _).set_ 0 _
  · exact (((hk.setCell (fun h => by have : N < w.heap.size := h; omega) _).setCell (fun h => by have : N + 1 < w.heap.size := h; omega) _).setCell (fun h => by have : N + 1 + 1 < w.heap.size := h; omega) _).drew
def LinesE (w w' : World) (e : Ending) : List Ln ⊕ (Nat × Int) → Prop
  | .inl ls => ∃ A c, e = .returned (.tuple #[.slice A ls.length c, .int .i64 0, .int .i64 0]) ∧ RLns w' (Fresh w w') [.slice A ls.length c] ls
  | .inr (k, x) => e = .returned (.tuple #[.slice none 0 0, .int .i64 (k : Int), .int .i64 x])
set_option maxHeartbeats 4000000 in
set_option maxRecDepth 100000 in
theorem wLines_any (s : Bs) (hl : s.length ≤ 9223372036854775807) (w : World) : Calls Tryz.prog 15 #[.string (mkS s)] w fun e w' => LinesE w w' e (linesT s) ∧ KeepsAll w w' := by
  refine (callsIn_wide (n := 3)).1 ?_
  refine callsIn_of_wp_marks Tryz.func15 rfl trivial ?_ rfl
  simp only [Tryz.ntmps15, List.size_toArray, List.length_cons, List.length_nil, Nat.reduceAdd, Nat.reduceSub, Array.replicate_succ, Array.replicate_zero, List.push_toArray, List.append_toArray, List.nil_append, List.cons_append]
  have hts : (mkS s).size = s.length := mkS_size s
  by_cases h : 65536 < s.length
  · have HL : Hid (linesT s = .inr (0, 7)) := by show _ = _; unfold linesT; rw [if_pos h]
    generalize mkS s = tb at *
    gi_wp2
    have hc0 : World.cell? (((w.alloc (Obj.cells #[.slice none 0 0] 39)).alloc (Obj.cells #[.int .i64 0] 3)).alloc (Obj.cells #[.int .i64 7] 25)) ⟨w.heap.size, 0, none⟩ = some (.slice none 0 0) := by go_simp
    have hc1 : World.cell? (((w.alloc (Obj.cells #[.slice none 0 0] 39)).alloc (Obj.cells #[.int .i64 0] 3)).alloc (Obj.cells #[.int .i64 7] 25)) ⟨w.heap.size + 1, 0, none⟩ = some (.int .i64 0) := by go_simp
    have hc2 : World.cell? (((w.alloc (Obj.cells #[.slice none 0 0] 39)).alloc (Obj.cells #[.int .i64 0] 3)).alloc (Obj.cells #[.int .i64 7] 25)) ⟨w.heap.size + 1 + 1, 0, none⟩ = some (.int .i64 7) := by go_simp
    refine ⟨.tuple #[.slice none 0 0, .int .i64 0, .int .i64 7], by simp [results, Tryz.results15, go_sem, hc0, hc1, hc2], ?_⟩
    exact ⟨by rw [HL.out]; rfl, (((Keeps.refl _ w).alloc _).alloc _).alloc _⟩
  · have HL : Hid (linesT s = goLines (piecesL s) 1 []) := by show _ = _; unfold linesT; rw [if_neg h]
    generalize htb : mkS s = tb at *
    have HTB := Lib.hid htb
    clear htb
    gi_wp2_with (refine ⟨trivial, ?_⟩; refine (callsIn_wide.2 (SplitSeq_any _ _ _)).mono ?_; rintro e w' ⟨rfl, rfl⟩)
    generalize hN : w.heap.size = N at *
    generalize hW0 : World.alloc _ (.cells #[.int .i64 0] 3) = W0
    have hsz : W0.heap.size = N + 8 := by subst hW0; simp [hN]
    have HS : SeqB W0 (N + 1 + 1 + 1 + 1 + 1 + 1) (N + 1 + 1 + 1 + 1 + 1) (N + 1 + 1 + 1 + 1 + 1 + 2) s := by
      subst hW0
      refine ⟨?_, ?_, Blk.new' _ _ _ (by simp [hN])⟩
      · exact (Blk.new' _ _ _ (by simp [hN])).alloc _
      · rw [HTB.out]
        exact ((Blk.new' _ _ _ (by simp [hN])).alloc _).alloc _
    have HI0 : LinI w N s [] W0 [] (.slice none 0 0) := by
      subst hW0
      refine ⟨fun rest h => by rw [List.nil_append] at h; rw [h]; rfl, ?_, OwnL.nil, ?_, ?_, ?_, ?_, ?_, Nat.le_refl _⟩
      · exact ((((Blk.new' _ _ _ (by simp [hN])).alloc _).alloc _).alloc _).alloc _
      · exact (((Blk.new' _ _ _ (by simp [hN])).alloc _).alloc _).alloc _
      · exact (((((((Blk.new' _ _ _ (by simp [hN])).alloc _).alloc _).alloc _).alloc _).alloc _).alloc _).alloc _
      · exact ((((((Blk.new' _ _ _ (by simp [hN])).alloc _).alloc _).alloc _).alloc _).alloc _).alloc _
      · exact (((((Blk.new' _ _ _ (by simp [hN])).alloc _).alloc _).alloc _).alloc _).alloc _
      · exact ((((((((Keeps.refl _ w).alloc _).alloc _).alloc _).alloc _).alloc _).alloc _).alloc _).alloc _
    clear hW0
    have HL2 : Hid (linesT s = goLines (piecesL s) 1 []) := HL
    refine wpIn_rangeSeq (by decide) rfl HS (by omega) ⟨by omega, by omega⟩ rfl (fun b => b < N + 5 ∨ N + 10 ≤ b) (by omega) (by omega) (by omega) (by omega) (by omega)
      (fun pre W => ∃ acc v, LinI w N s pre W acc v) (fun W => ∃ k x, LinX w N s W k x)
      (fun pre W u ⟨acc, v, h⟩ => ⟨acc, v, h.turn hN.symm ((Keeps.refl (fun b => b = N + 1 + 1 + 1 + 1 + 1) W).setCell (p := ⟨N + 1 + 1 + 1 + 1 + 1, 0, none⟩) (fun _ => rfl) u) (fun b e => by omega)⟩)
      (fun pre W k o hk ⟨acc, v, h⟩ => ⟨acc, v, h.turn hN.symm ((Keeps.refl (fun b => b = k) W).putObj (fun _ => rfl) o) (fun b e => by omega)⟩)
      (fun W k o hk ⟨k', x, h⟩ => ⟨k', x, h.turn hN.symm ((Keeps.refl (fun b => b = k) W).putObj (fun _ => rfl) o) (fun b e => by omega)⟩)
      (fun o1 o2 => ⟨[], _, HI0.turn (C := fun _ => False) hN.symm (((Keeps.refl _ W0).alloc o1).alloc o2) (fun _ h => h.elim)⟩)
      (fun x => { tmps := #[.string tb, undef, .pointer (some ⟨N, 0, none⟩), .pointer (some ⟨N + 1, 0, none⟩), .pointer (some ⟨N + 1 + 1, 0, none⟩), .pointer (some ⟨N + 1 + 1 + 1, 0, none⟩), .pointer (some ⟨N + 1 + 1 + 1 + 1, 0, none⟩), .string (mkS x), undef, undef, .string tb, .int .i64 (s.length : Int), .bool (decide (65536 < (s.length : Int))), .string tb, .func (.func 86) #[] #[.pointer (some ⟨N + 1 + 1 + 1 + 1 + 1 + 1, 0, none⟩), .pointer (some ⟨N + 1 + 1 + 1 + 1 + 1, 0, none⟩), .pointer (some ⟨N + 1 + 1 + 1 + 1 + 1 + 2, 0, none⟩)], .string (mkS x), undef, undef, undef, undef, undef, undef, undef, undef, undef, undef, undef, undef, undef, undef, undef, undef, undef, undef, undef, undef, undef, undef, undef, undef, undef, undef], defers := [] }) ?assign ?body ?done ?stop
    case assign =>
      intro l x W K hK
      gi_wp2
      exact hK
    case body =>
      rintro l pre x rest W hpc ⟨acc, v, hI⟩ hWs
      have HI := Lib.hid hI
      have hpl := pieces_len s
      rw [hpc] at hpl
      simp only [List.length_append, List.length_cons] at hpl
      have hxl := pieces_mem s x (by rw [hpc]; simp)
      have hgo := hI.go _ hpc
      have c6 := hI.bn.cell 0
      have f6 := hI.bn.frozen 0
      have c5 := hI.bl.cell 0
      have f5 := hI.bl.frozen 0
      have d0 := hI.r0.cell 0
      have d1 := hI.r1.cell 0
      have d2 := hI.r2.cell 0
      have e0 := hI.r0.frozen 0
      have e1 := hI.r1.frozen 0
      have e2 := hI.r2.frozen 0
      simp at c6 c5 d0 d1 d2
      have HSP := Lib.hid (fun W1 => split_any x (by omega) ((pre.length : Int) + 1) W1)
      have hal := hI.len
      obtain ⟨A, cv, hv, hcv1, hcv2⟩ := hI.own.form
      subst hv
      clear hI HL HL2 HI0 HS HTB hts
      cases hw : wordsL x with
      | none =>
        rw [hw] at HSP
        have hg2 : goLines (piecesL s) 1 [] = .inr (pre.length + 1, 2) := by rw [hgo, goLines, hw]
        have HG := Lib.hid hg2
        clear hg2 hgo hw hpc
        gi_wp2_with (refine ⟨trivial, ?_⟩; refine (CallsIn.inRound l (callsIn_wide.2 (HSP.out _))).mono ?_; rintro e W2 ⟨rfl, hk2⟩)
        have hb4 : Blk W2 (N + 1 + 1 + 1 + 1) 3 #[.int .i64 ((pre.length : Int) + 1)] := (HI.out.bn.set_ 0 _).kept hk2 (fun h => h)
        have hr0 : Blk W2 N 39 #[.slice none 0 0] := (HI.out.r0.far (by show N ≠ N + 1 + 1 + 1 + 1; omega) _).kept hk2 (fun h => h)
        have hr1 : Blk W2 (N + 1) 3 #[.int .i64 0] := (HI.out.r1.far (by show N + 1 ≠ N + 1 + 1 + 1 + 1; omega) _).kept hk2 (fun h => h)
        have hr2 : Blk W2 (N + 1 + 1) 25 #[.int .i64 0] := (HI.out.r2.far (by show N + 1 + 1 ≠ N + 1 + 1 + 1 + 1; omega) _).kept hk2 (fun h => h)
        have HK2 : Hid (KeepsAll w W2) := HI.out.keep.trans ((Keeps.refl _ W).setCell (C := fun b => b = N + 1 + 1 + 1 + 1) (fun _ => rfl) _ |>.trans hk2 (fun _ _ h => h.elim)) (fun b hb hc => by omega)
        have HKC : Hid (Keeps (fun b => b < N + 5 ∨ N + 10 ≤ b) W W2) := ((Keeps.refl _ W).setCell (C := fun b => b < N + 5 ∨ N + 10 ≤ b) (p := ⟨N + 1 + 1 + 1 + 1, 0, none⟩) (fun _ => by show N + 1 + 1 + 1 + 1 < N + 5 ∨ N + 10 ≤ N + 1 + 1 + 1 + 1; omega) _).trans hk2 (fun _ _ h => h.elim)
        have HR0 := Lib.hid hr0
        have HR1 := Lib.hid hr1
        have HR2 := Lib.hid hr2
        have c4 := hb4.cell 0
        have d0 := hr0.cell 0
        have d1 := hr1.cell 0
        have d2 := hr2.cell 0
        have e0 := hr0.frozen 0
        have e1 := hr1.frozen 0
        have e2 := hr2.frozen 0
        simp at c4 d0 d1 d2
        have hmix : Tryz.prog.follows .mixedOrders = true := by kernel_rfl
        clear hb4 hr0 hr1 hr2 hk2
        clear c6 c5 f6 f5
        gi_region_with_o (fail)
        all_goals
          gi_wp2
          exact linx_stores hN.symm HG.out HR0.out HR1.out HR2.out HK2.out HKC.out
      | some ws =>
        rw [hw] at HSP
        by_cases h64 : 64 < ws.length
        · have hg2 : goLines (piecesL s) 1 [] = .inr (pre.length + 1, 7) := by rw [hgo, goLines, hw]; simp only []; rw [if_pos h64]
          have HG := Lib.hid hg2
          clear hg2 hgo hw hpc
          gi_wp2_with (refine ⟨trivial, ?_⟩; refine (CallsIn.inRound l (callsIn_wide.2 (HSP.out _))).mono ?_; rintro e W2 ⟨⟨A2, c2, rfl, hw2⟩, hk2⟩)
          have hb4 : Blk W2 (N + 1 + 1 + 1 + 1) 3 #[.int .i64 ((pre.length : Int) + 1)] := (HI.out.bn.set_ 0 _).kept hk2 (fun h => h)
          have hb5 : Blk W2 (N + 1 + 1 + 1) 39 #[.slice A acc.length cv] := (HI.out.bl.far (by show N + 1 + 1 + 1 ≠ N + 1 + 1 + 1 + 1; omega) _).kept hk2 (fun h => h)
          have hr0 : Blk W2 N 39 #[.slice none 0 0] := (HI.out.r0.far (by show N ≠ N + 1 + 1 + 1 + 1; omega) _).kept hk2 (fun h => h)
          have hr1 : Blk W2 (N + 1) 3 #[.int .i64 0] := (HI.out.r1.far (by show N + 1 ≠ N + 1 + 1 + 1 + 1; omega) _).kept hk2 (fun h => h)
          have hr2 : Blk W2 (N + 1 + 1) 25 #[.int .i64 0] := (HI.out.r2.far (by show N + 1 + 1 ≠ N + 1 + 1 + 1 + 1; omega) _).kept hk2 (fun h => h)
          have HK2 : Hid (KeepsAll w W2) := HI.out.keep.trans ((Keeps.refl _ W).setCell (C := fun b => b = N + 1 + 1 + 1 + 1) (fun _ => rfl) _ |>.trans hk2 (fun _ _ h => h.elim)) (fun b hb hc => by omega)
          have HKC : Hid (Keeps (fun b => b < N + 5 ∨ N + 10 ≤ b) W W2) := ((Keeps.refl _ W).setCell (C := fun b => b < N + 5 ∨ N + 10 ≤ b) (p := ⟨N + 1 + 1 + 1 + 1, 0, none⟩) (fun _ => by show N + 1 + 1 + 1 + 1 < N + 5 ∨ N + 10 ≤ N + 1 + 1 + 1 + 1; omega) _).trans hk2 (fun _ _ h => h.elim)
          have HOW : Hid (OwnL 42 1 RLn W2 (N + 10) (N + 10) (.slice A acc.length cv) acc) := (HI.out.own.keeps RLn.ok ((Keeps.refl _ W).setCell (C := fun b => b = N + 1 + 1 + 1 + 1) (fun _ => rfl) _) (fun b _ hc => by omega)).keeps RLn.ok hk2 (fun b _ hc => hc.elim)
          have hW2 : N + 10 ≤ W2.heap.size := by have := hk2.size; simp at this; omega
          have HR0 := Lib.hid hr0
          have HR1 := Lib.hid hr1
          have HR2 := Lib.hid hr2
          have HB4 := Lib.hid hb4
          have HB5 := Lib.hid hb5
          have HW2 := Lib.hid hw2
          have c4 := hb4.cell 0
          have c5' := hb5.cell 0
          have f5' := hb5.frozen 0
          have d0 := hr0.cell 0
          have d1 := hr1.cell 0
          have d2 := hr2.cell 0
          have e0 := hr0.frozen 0
          have e1 := hr1.frozen 0
          have e2 := hr2.frozen 0
          simp at c4 c5' d0 d1 d2
          clear hb4 hb5 hr0 hr1 hr2 hk2 hw2
          have hmix : Tryz.prog.follows .mixedOrders = true := by kernel_rfl
          clear c6 c5 f6 f5
          gi_region_with_o (fail)
          all_goals
            gi_wp2
            exact linx_stores hN.symm HG.out HR0.out HR1.out HR2.out HK2.out HKC.out
        · by_cases h0 : ws = []
          · have HGO : Hid (∀ r, piecesL s = (pre ++ [x]) ++ r → goLines (piecesL s) 1 [] = goLines r ((pre ++ [x]).length + 1) acc) := fun r hr => by
              have hrr : r = rest := by
                rw [hpc, List.append_assoc] at hr
                have := List.append_cancel_left hr
                simpa using this.symm
              rw [hgo, goLines, hw]
              simp only []
              rw [if_neg h64, if_pos h0, hrr]
              simp
            have hl0 : ws.length = 0 := by rw [h0]; rfl
            have hcap : ¬ 64 < ws.length := by omega
            clear hgo hw hpc h0 h64
            gi_wp2_with (refine ⟨trivial, ?_⟩; refine (CallsIn.inRound l (callsIn_wide.2 (HSP.out _))).mono ?_; rintro e W2 ⟨⟨A2, c2, rfl, hw2⟩, hk2⟩)
            have hb4 : Blk W2 (N + 1 + 1 + 1 + 1) 3 #[.int .i64 ((pre.length : Int) + 1)] := (HI.out.bn.set_ 0 _).kept hk2 (fun h => h)
            have hb5 : Blk W2 (N + 1 + 1 + 1) 39 #[.slice A acc.length cv] := (HI.out.bl.far (by show N + 1 + 1 + 1 ≠ N + 1 + 1 + 1 + 1; omega) _).kept hk2 (fun h => h)
            have hr0 : Blk W2 N 39 #[.slice none 0 0] := (HI.out.r0.far (by show N ≠ N + 1 + 1 + 1 + 1; omega) _).kept hk2 (fun h => h)
            have hr1 : Blk W2 (N + 1) 3 #[.int .i64 0] := (HI.out.r1.far (by show N + 1 ≠ N + 1 + 1 + 1 + 1; omega) _).kept hk2 (fun h => h)
            have hr2 : Blk W2 (N + 1 + 1) 25 #[.int .i64 0] := (HI.out.r2.far (by show N + 1 + 1 ≠ N + 1 + 1 + 1 + 1; omega) _).kept hk2 (fun h => h)
            have HK2 : Hid (KeepsAll w W2) := HI.out.keep.trans ((Keeps.refl _ W).setCell (C := fun b => b = N + 1 + 1 + 1 + 1) (fun _ => rfl) _ |>.trans hk2 (fun _ _ h => h.elim)) (fun b hb hc => by omega)
            have HKC : Hid (Keeps (fun b => b < N + 5 ∨ N + 10 ≤ b) W W2) := ((Keeps.refl _ W).setCell (C := fun b => b < N + 5 ∨ N + 10 ≤ b) (p := ⟨N + 1 + 1 + 1 + 1, 0, none⟩) (fun _ => by show N + 1 + 1 + 1 + 1 < N + 5 ∨ N + 10 ≤ N + 1 + 1 + 1 + 1; omega) _).trans hk2 (fun _ _ h => h.elim)
            have HOW : Hid (OwnL 42 1 RLn W2 (N + 10) (N + 10) (.slice A acc.length cv) acc) := (HI.out.own.keeps RLn.ok ((Keeps.refl _ W).setCell (C := fun b => b = N + 1 + 1 + 1 + 1) (fun _ => rfl) _) (fun b _ hc => by omega)).keeps RLn.ok hk2 (fun b _ hc => hc.elim)
            have hW2 : N + 10 ≤ W2.heap.size := by have := hk2.size; simp at this; omega
            have HR0 := Lib.hid hr0
            have HR1 := Lib.hid hr1
            have HR2 := Lib.hid hr2
            have HB4 := Lib.hid hb4
            have HB5 := Lib.hid hb5
            have HW2 := Lib.hid hw2
            have c4 := hb4.cell 0
            have c5' := hb5.cell 0
            have f5' := hb5.frozen 0
            have d0 := hr0.cell 0
            have d1 := hr1.cell 0
            have d2 := hr2.cell 0
            have e0 := hr0.frozen 0
            have e1 := hr1.frozen 0
            have e2 := hr2.frozen 0
            simp at c4 c5' d0 d1 d2
            clear hb4 hb5 hr0 hr1 hr2 hk2 hw2
            exact ⟨HKC.out, acc, .slice A acc.length cv, HGO.out, HB5.out, HOW.out, by have := HB4.out; simpa using this, HR0.out, HR1.out, HR2.out, HK2.out, by simp; omega⟩
          · have HGO : Hid (∀ r, piecesL s = (pre ++ [x]) ++ r → goLines (piecesL s) 1 [] = goLines r ((pre ++ [x]).length + 1) (acc ++ [(pre.length + 1, ws)])) := fun r hr => by
              have hrr : r = rest := by
                rw [hpc, List.append_assoc] at hr
                have := List.append_cancel_left hr
                simpa using this.symm
              rw [hgo, goLines, hw]
              simp only []
              rw [if_neg h64, if_neg h0, hrr]
              simp
            have hl0 : 0 < ws.length := List.length_pos_iff.2 h0
            clear hgo hw hpc h0
            gi_wp2_with (first
              | (
                refine ⟨trivial, ?_⟩
                refine (CallsIn.inRound l (callsIn_wide.2 (HSP.out _))).mono ?_
                rintro e W2 ⟨⟨A2, c2, rfl, hw2⟩, hk2⟩
                have hb4 : Blk W2 (N + 1 + 1 + 1 + 1) 3 #[.int .i64 ((pre.length : Int) + 1)] := (HI.out.bn.set_ 0 _).kept hk2 (fun h => h)
                have hb5 : Blk W2 (N + 1 + 1 + 1) 39 #[.slice A acc.length cv] := (HI.out.bl.far (by show N + 1 + 1 + 1 ≠ N + 1 + 1 + 1 + 1; omega) _).kept hk2 (fun h => h)
                have hr0 : Blk W2 N 39 #[.slice none 0 0] := (HI.out.r0.far (by show N ≠ N + 1 + 1 + 1 + 1; omega) _).kept hk2 (fun h => h)
                have hr1 : Blk W2 (N + 1) 3 #[.int .i64 0] := (HI.out.r1.far (by show N + 1 ≠ N + 1 + 1 + 1 + 1; omega) _).kept hk2 (fun h => h)
                have hr2 : Blk W2 (N + 1 + 1) 25 #[.int .i64 0] := (HI.out.r2.far (by show N + 1 + 1 ≠ N + 1 + 1 + 1 + 1; omega) _).kept hk2 (fun h => h)
                have HK2 : Hid (KeepsAll w W2) := HI.out.keep.trans ((Keeps.refl _ W).setCell (C := fun b => b = N + 1 + 1 + 1 + 1) (fun _ => rfl) _ |>.trans hk2 (fun _ _ h => h.elim)) (fun b hb hc => by omega)
                have HKC : Hid (Keeps (fun b => b < N + 5 ∨ N + 10 ≤ b) W W2) := ((Keeps.refl _ W).setCell (C := fun b => b < N + 5 ∨ N + 10 ≤ b) (p := ⟨N + 1 + 1 + 1 + 1, 0, none⟩) (fun _ => by show N + 1 + 1 + 1 + 1 < N + 5 ∨ N + 10 ≤ N + 1 + 1 + 1 + 1; omega) _).trans hk2 (fun _ _ h => h.elim)
                have HOW : Hid (OwnL 42 1 RLn W2 (N + 10) (N + 10) (.slice A acc.length cv) acc) := (HI.out.own.keeps RLn.ok ((Keeps.refl _ W).setCell (C := fun b => b = N + 1 + 1 + 1 + 1) (fun _ => rfl) _) (fun b _ hc => by omega)).keeps RLn.ok hk2 (fun b _ hc => hc.elim)
                have hW2 : N + 10 ≤ W2.heap.size := by have := hk2.size; simp at this; omega
                have HR0 := Lib.hid hr0
                have HR1 := Lib.hid hr1
                have HR2 := Lib.hid hr2
                have HB4 := Lib.hid hb4
                have HB5 := Lib.hid hb5
                have HW2 := Lib.hid hw2
                have c4 := hb4.cell 0
                have c5' := hb5.cell 0
                have f5' := hb5.frozen 0
                have d0 := hr0.cell 0
                have d1 := hr1.cell 0
                have d2 := hr2.cell 0
                have e0 := hr0.frozen 0
                have e1 := hr1.frozen 0
                have e2 := hr2.frozen 0
                simp at c4 c5' d0 d1 d2
                clear hb4 hb5 hr0 hr1 hr2 hk2 hw2
                )
              | (gi_at_builtin; go_loud (
                have KB : KeepsAll W2 (W2.alloc (.cells #[.slice A2 ws.length c2] 42)) := (Keeps.refl _ _).alloc _
                have hown := HOW.out.alloc RLn.ok (.cells #[.slice A2 ws.length c2] 42)
                refine wpListIn_append_L tyLn RLn.ok rfl (.tmp 37) (.tmp 39) rfl hown rfl _ [.slice A2 ws.length c2] rfl (Blk.new W2 42 #[.slice A2 ws.length c2]) rfl ((pre.length + 1, ws) : Ln) (S := fun b => N + 10 ≤ b ∧ b < W2.heap.size ∧ (Value.slice A acc.length cv).ownBlock ≠ some b) ?hr1 ?hr2 (by simp [Value.oneCell']) (by omega) (by omega) (by simp; omega) ?_
                rotate_left 2
                intro v8 w8 HO8 HK8 HA8
                obtain ⟨A8, c8, hv8, hc8, hc9⟩ := HO8.form
                subst hv8
                have hne : ∀ b, b < N + 10 → ¬ (Value.slice A acc.length cv).ownBlock = some b := fun b hb e => by have := (HOW.out.lt e).1; omega
                have hq5 : Blk w8 (N + 1 + 1 + 1) 39 #[.slice A acc.length cv] := (HB5.out.alloc _).kept HK8 (hne _ (by omega))
                have HQ4 : Hid (Blk w8 (N + 1 + 1 + 1 + 1) 3 #[.int .i64 ((pre.length : Int) + 1)]) := (HB4.out.alloc _).kept HK8 (hne _ (by omega))
                have HQ0 : Hid (Blk w8 N 39 #[.slice none 0 0]) := (HR0.out.alloc _).kept HK8 (hne _ (by omega))
                have HQ1 : Hid (Blk w8 (N + 1) 3 #[.int .i64 0]) := (HR1.out.alloc _).kept HK8 (hne _ (by omega))
                have HQ2 : Hid (Blk w8 (N + 1 + 1) 25 #[.int .i64 0]) := (HR2.out.alloc _).kept HK8 (hne _ (by omega))
                have HKW : Hid (KeepsAll w w8) := (HK2.out.alloc _).trans HK8 (fun b hb e => hne b (by omega) e)
                have HKQ : Hid (Keeps (fun b => b < N + 5 ∨ N + 10 ≤ b) W w8) := (HKC.out.alloc _).trans HK8 (fun b hb e => by
                  rcases Nat.lt_or_ge b (N + 10) with h | h
                  · exact absurd e (hne b h)
                  · exact .inr h)
                have HQ5 := Lib.hid hq5
                have HO9 := Lib.hid HO8
                have q5 := hq5.cell 0
                have g5 := hq5.frozen 0
                simp at q5
                clear hq5 HO8 HK8 HA8 hown KB
                )))
            case hr1 =>
              have hcast : (((pre.length + 1 : Nat) : Nat) : Int) = (pre.length : Int) + 1 := by omega
              show RWds (((pre.length + 1 : Nat) : Nat) : Int) _ _ _ ws
              rw [hcast]
              refine (RSlice.ok RWd.ok).mono HW2.out (fun b hb => ?_) (fun b hb => Below.heap_alloc W2 _ b hb.2)
              have h1 : W.heap.size ≤ b := by have := hb.1; simpa using this
              exact ⟨by omega, hb.2, fun e => by have := (HI.out.own.lt e).2; omega⟩
            case hr2 =>
              intro b hb
              exact ⟨hb.1, by simp; omega, hb.2.2⟩
            have hlen9 : (acc ++ [((pre.length + 1, ws) : Ln)]).length = acc.length + 1 := by simp
            have ho9 := HO9.out
            rw [hlen9] at ho9
            refine ⟨HKQ.out.setCell (fun _ => .inl (by show N + 1 + 1 + 1 < N + 5; omega)) _, acc ++ [(pre.length + 1, ws)], .slice A8 (acc.length + 1) c8, HGO.out, HQ5.out.set_ 0 _, ho9.keeps RLn.ok ((Keeps.refl _ w8).setCell (C := fun b => b = N + 1 + 1 + 1) (fun _ => rfl) _) (fun b _ hc => by omega), ?_, HQ0.out.far (by show N ≠ N + 1 + 1 + 1; omega) _, HQ1.out.far (by show N + 1 ≠ N + 1 + 1 + 1; omega) _, HQ2.out.far (by show N + 1 + 1 ≠ N + 1 + 1 + 1; omega) _, HKW.out.setCell (fun h => by have : N + 1 + 1 + 1 < w.heap.size := h; omega) _, by simp; omega⟩
            have hq := HQ4.out.far (p := ⟨N + 1 + 1 + 1, 0, none⟩) (by show N + 1 + 1 + 1 + 1 ≠ N + 1 + 1 + 1; omega) (.slice A8 (acc.length + 1) c8)
            simpa using hq
    case done =>
      rintro W ⟨acc, v, hI⟩ hK
      have HI := Lib.hid hI
      obtain ⟨A, cv, hv, hcv1, hcv2⟩ := hI.own.form
      subst hv
      have c5 := hI.bl.cell 0
      have d0 := hI.r0.cell 0
      have d1 := hI.r1.cell 0
      have d2 := hI.r2.cell 0
      have e0 := hI.r0.frozen 0
      have e1 := hI.r1.frozen 0
      have e2 := hI.r2.frozen 0
      simp at c5 d0 d1 d2
      have HK := Lib.hid hK
      have HG : Hid (linesT s = .inl acc) := by
        show _ = _
        rw [HL2.out, hI.go [] (by simp)]
        rfl
      rw [hsz] at HK
      clear hI HL HL2 HI0 HS HTB hts hK
      gi_wp2
      rw [hsz]
      generalize hW5 : World.setCell _ ⟨N + 1 + 1, 0, none⟩ _ = W5
      have hb0 : Blk W5 N 39 #[.slice A acc.length cv] := by
        subst hW5; exact ((HI.out.r0.set_ 0 _).far (by show N ≠ N + 1; omega) _).far (by show N ≠ N + 1 + 1; omega) _
      have hb1 : Blk W5 (N + 1) 3 #[.int .i64 0] := by
        subst hW5; exact ((HI.out.r1.far (by show N + 1 ≠ N; omega) _).set_ 0 _).far (by show N + 1 ≠ N + 1 + 1; omega) _
      have hb2 : Blk W5 (N + 1 + 1) 25 #[.int .i64 0] := by
        subst hW5; exact ((HI.out.r2.far (by show N + 1 + 1 ≠ N; omega) _).far (by show N + 1 + 1 ≠ N + 1; omega) _).set_ 0 _
      have hk5 : KeepsAll w W5 := by
        subst hW5; exact ((HI.out.keep.setCell (fun h => by have : N < w.heap.size := h; omega) _).setCell (fun h => by have : N + 1 < w.heap.size := h; omega) _).setCell (fun h => by have : N + 1 + 1 < w.heap.size := h; omega) _
      have hKC : Keeps (fun b => b < N + 3) W W5 := by
        subst hW5; exact (((Keeps.refl _ W).setCell (fun _ => by show N < _; omega) _).setCell (fun _ => by show N + 1 < _; omega) _).setCell (fun _ => by show N + 1 + 1 < _; omega) _
      clear hW5
      have hD5 : W5.heap[N + 8]? = some (.deferred (some [])) := (hKC.block (N + 8) (Array.getElem?_eq_some_iff.1 HK.out).1 (by omega)).trans HK.out
      refine ⟨by simp, .inl ⟨_, _, rfl, run_takeDeferred hD5, ?_⟩⟩
      have hKP : Keeps (fun b => b = N + 8) W5 (W5.putObj (N + 8) (.deferred none)) := (Keeps.refl (fun b => b = N + 8) W5).putObj (k := N + 8) (fun _ => rfl) _
      have q0 := (hb0.kept hKP (by omega)).cell 0
      have q1 := (hb1.kept hKP (by omega)).cell 0
      have q2 := (hb2.kept hKP (by omega)).cell 0
      simp at q0 q1 q2
      refine ⟨.tuple #[.slice A acc.length cv, .int .i64 0, .int .i64 0], by simp [results, Tryz.results15, go_sem, q0, q1, q2], ?_⟩
      have ho := (HI.out.own.keeps RLn.ok hKC (fun b _ hc => by omega)).keeps RLn.ok hKP (fun b _ hc => by omega)
      have hread : RLns (W5.putObj (N + 8) (.deferred none)) (Fresh w (W5.putObj (N + 8) (.deferred none))) [.slice A acc.length cv] acc := ho.read RLn.ok (by decide) (fun b h1 h2 => ⟨by omega, h2⟩) (fun b h1 h2 => ⟨by omega, h2⟩)
      exact ⟨by rw [HG.out]; exact ⟨A, cv, rfl, hread⟩, hk5.trans hKP (fun b hb e => by omega)⟩
    case stop =>
      rintro W ⟨k, x, hI⟩ hK
      have HI := Lib.hid hI
      have HK := Lib.hid hK
      have HG : Hid (linesT s = .inr (k, x)) := by
        show _ = _
        rw [HL2.out, hI.go]
      rw [hsz] at HK
      clear hI HL HL2 HI0 HS HTB hts hK
      gi_wp2
      rw [hsz]
      refine ⟨by simp, .inl ⟨_, _, rfl, run_takeDeferred HK.out, ?_⟩⟩
      have hKP : Keeps (fun b => b = N + 8) W (W.putObj (N + 8) (.deferred none)) := (Keeps.refl (fun b => b = N + 8) W).putObj (k := N + 8) (fun _ => rfl) _
      have q0 := (HI.out.r0.kept hKP (by omega)).cell 0
      have q1 := (HI.out.r1.kept hKP (by omega)).cell 0
      have q2 := (HI.out.r2.kept hKP (by omega)).cell 0
      simp at q0 q1 q2
      refine ⟨.tuple #[.slice none 0 0, .int .i64 (k : Int), .int .i64 x], by simp [results, Tryz.results15, go_sem, q0, q1, q2], ?_⟩
      exact ⟨by rw [HG.out]; rfl, HI.out.keep.trans hKP (fun b hb e => by omega)⟩
end

section
open Go.RowKit

/-- does the operation more than read? -/
def actOp : Op → Bool
  | .move _ | .assign _ | .pick .. | .build .. | .load .. | .nilCheck _ | .binOp .. | .unOp .. | .convert .. | .slice .. | .fieldAddr .. | .field .. | .indexAddr .. | .index .. | .lookup .. | .extract .. => false
  | .call c => match c.callee with | .builtin .len | .builtin .cap | .builtin .min | .builtin .max => false | _ => true
  | _ => true
def actAt (l : List Oper) (i : Nat) : Bool := match l[i]? with | some o => actOp o.op | none => true

/-- whom an operation waits for, through others too, as a mask -/
def maskOf (ms : List Nat) (o : Oper) : Nat := o.after.toList.foldl (fun m e => if Region.binds .any e then m ||| ((1 <<< e.on) ||| ms.getD e.on 0) else m) 0
def masks : List Oper → List Nat → List Nat
  | [], ms => ms
  | o :: r, ms => masks r (ms ++ [maskOf ms o])
def waits (ms : List Nat) (j i : Nat) : Bool := (ms.getD j 0).testBit i

def pairOk (l : List Oper) (ms : List Nat) (i j : Nat) : Bool :=
  !waits ms i j && (waits ms j i || (!actAt l i && match l[i]?, l[j]? with | some x, some y => x.apart l.toArray y | _, _ => false))
def pairsOk (l : List Oper) (ms : List Nat) : List Nat → Bool
  | [] => true
  | i :: r => r.all (pairOk l ms i) && pairsOk l ms r
def nodupB : List Nat → Bool
  | [] => true
  | i :: r => !r.contains i && nodupB r
/-- must the class hold behind operation j? -/
def needF (l : List Oper) (ms : List Nat) : List Nat → List Nat → Nat → Bool
  | _, [], _ => true
  | bef, i :: r, j => if i == j then bef.any (fun k => !waits ms j k) || r.any (fun k => !actAt l k) else needF l ms (i :: bef) r j
def edgesBack (l : List Oper) : Bool := (List.range l.length).all fun j => match l[j]? with | some o => o.after.toList.all (fun e => decide (e.on < j)) | none => true
def piOk (l : List Oper) (pi : List Nat) : Bool :=
  Region.noSelect l.toArray && (pi.length == l.length) && nodupB pi && pi.all (fun i => decide (i < l.length)) && (List.range l.length).all (fun i => pi.contains i) && pairsOk l (masks l []) pi && edgesBack l

section
variable {P : Program} {ops : Array Oper} {Q : Exit → Act → World → Prop} {C : World → Prop} {act need : Nat → Bool}

def wpLex (P : Program) (ops : Array Oper) (Q : Exit → Act → World → Prop) (C : World → Prop) (act need : Nat → Bool) : List Nat → Act → World → Prop
  | [], a, w => Q .normal a w
  | i :: r, a, w => if act i = true then wpOp P ops Q i (fun a' w' => (need i = true → C w') ∧ wpLex P ops Q C act need r a' w') a w
      else ∃ oi v, ops[i]? = some oi ∧ YieldsIf P ops C oi v a ∧ wpLex P ops Q C act need r (a.put oi.dst v) w

/-- an operation that may come up, ahead of which only reading operations stand, may be taken first -/
theorem wpLex_pull (hsel : ∀ (j : Nat) (o : Oper) cs b, ops[j]? = some o → o.op ≠ .select cs b) (hQ : ∀ c a w, ¬ Q (.panic c) a w) (i : Nat) (post : List Nat) :
    ∀ (pre : List Nat) (a : Act) (w : World), (∀ k ∈ pre, act k = false ∧ ∀ ok oi, ops[k]? = some ok → ops[i]? = some oi → ok.apart ops oi = true) → (pre ≠ [] → need i = true) → (act i = false ∨ pre ≠ [] → C w) →
      (act i = true → ∃ oi, ops[i]? = some oi) → wpLex P ops Q C act need (pre ++ i :: post) a w → wpOp P ops Q i (fun a' w' => (act i = true → need i = true → C w') ∧ (act i = false → w' = w) ∧ wpLex P ops Q C act need (pre ++ post) a' w') a w := by
  intro pre
  induction pre with
  | nil =>
    intro a w _ _ hC _ h
    simp only [List.nil_append, wpLex] at h ⊢
    by_cases ha : act i = true
    · rw [if_pos ha] at h
      exact wpOp_mono (fun a' w' h => ⟨fun _ hn => h.1 hn, fun hf => (by rw [ha] at hf; cases hf), h.2⟩) h
    · rw [if_neg ha] at h
      obtain ⟨oi, v, hoi, hy, hr⟩ := h
      have hf : act i = false := by simpa using ha
      exact hy.wpOp hoi (hC (.inl hf)) ⟨fun e => (by rw [hf] at e; cases e), fun _ => rfl, hr⟩
  | cons k pre ih =>
    intro a w hpre hneed hC hex h
    obtain ⟨hk, hap⟩ := hpre k (by simp)
    have hk' : ¬ act k = true := by simp [hk]
    simp only [List.cons_append, wpLex] at h ⊢
    rw [if_neg hk'] at h
    obtain ⟨ok, u, hok, hyk, hr⟩ := h
    have hn : need i = true := hneed (by simp)
    have hCw : C w := hC (.inr (by simp))
    have h2 := ih (a.put ok.dst u) w (fun x hx => hpre x (by simp [hx])) (fun _ => hn) (fun _ => hCw) hex hr
    -- the operation i is there
    by_cases hoi : ∃ oi, ops[i]? = some oi
    · obtain ⟨oi, hoi⟩ := hoi
      have h3 := wpOp_putIf (S := C) hoi (hap ok oi hok hoi) (fun cs b => hsel k ok cs b hok) (fun cs b => hsel i oi cs b hoi) (fun c a w hq => absurd hq (hQ c _ w)) hyk h2
      refine wpOp_mono (fun a' w' h => ⟨h.2.1, h.2.2.1, ?_⟩) h3
      rw [if_neg hk']
      exact ⟨ok, u, hok, h.1, h.2.2.2⟩
    · have hnone : ops[i]? = none := by
        cases e : ops[i]? with
        | none => rfl
        | some o => exact absurd ⟨o, e⟩ hoi
      unfold wpOp at h2 ⊢
      simp only [hnone] at h2 ⊢
      have haf : act i = false := by
        cases e : act i with
        | false => rfl
        | true => exact absurd (hex e) hoi
      refine ⟨h2.1, h2.2.1, ?_⟩
      rw [if_neg hk']
      exact ⟨ok, u, hok, hyk, h2.2.2⟩
end

theorem testBit_foldl (ms : List Nat) (i : Nat) : ∀ (es : List Edge) (m : Nat), (es.foldl (fun m e => if Region.binds .any e then m ||| ((1 <<< e.on) ||| ms.getD e.on 0) else m) m).testBit i = true →
    m.testBit i = true ∨ ∃ e ∈ es, Region.binds .any e = true ∧ (e.on = i ∨ (ms.getD e.on 0).testBit i = true)
  | [], m, h => .inl h
  | e :: es, m, h => by
    simp only [List.foldl_cons] at h
    rcases testBit_foldl ms i es _ h with h1 | ⟨e', he', hb, hh⟩
    · by_cases hb : Region.binds .any e = true
      · rw [if_pos hb] at h1
        simp only [Nat.testBit_or, Bool.or_eq_true] at h1
        rcases h1 with h1 | h1 | h1
        · exact .inl h1
        · refine .inr ⟨e, by simp, hb, .inl ?_⟩
          rw [Nat.one_shiftLeft, Nat.testBit_two_pow] at h1
          simpa using h1
        · exact .inr ⟨e, by simp, hb, .inr h1⟩
      · rw [if_neg hb] at h1; exact .inl h1
    · exact .inr ⟨e', by simp [he'], hb, hh⟩

theorem masks_take : ∀ (l : List Oper) (ms : List Nat) (k : Nat), k < ms.length → (masks l ms)[k]? = ms[k]?
  | [], ms, k, _ => rfl
  | o :: r, ms, k, h => by
    rw [masks, masks_take r (ms ++ [maskOf ms o]) k (by simp; omega), List.getElem?_append_left h]
theorem masks_at : ∀ (l : List Oper) (ms : List Nat) (k : Nat) (o : Oper), l[k]? = some o → ∃ pre, (masks l ms)[ms.length + k]? = some (maskOf pre o) ∧ ∀ i, i < ms.length + k → pre.getD i 0 = (masks l ms).getD i 0
  | [], ms, k, o, h => by simp at h
  | x :: r, ms, 0, o, h => by
    simp at h; subst h
    refine ⟨ms, ?_, fun i hi => ?_⟩
    · rw [masks, masks_take r _ _ (by simp)]; simp
    · have := masks_take (x :: r) ms i (by simpa using hi)
      rw [List.getD_eq_getElem?_getD, List.getD_eq_getElem?_getD, this]
  | x :: r, ms, k + 1, o, h => by
    obtain ⟨pre, h1, h2⟩ := masks_at r (ms ++ [maskOf ms x]) k o (by simpa using h)
    refine ⟨pre, ?_, fun i hi => ?_⟩
    · rw [masks]; rw [← h1]; congr 1; simp; omega
    · rw [masks]; exact h2 i (by simp; omega)

/-- whoever may come up has all come up that he waits for -/
theorem waits_listed {l : List Oper} (hb : edgesBack l = true) {L : Nat → Prop} (hL : ∀ (j : Nat) (o : Oper), l[j]? = some o → L j → ∀ e ∈ o.after, Region.binds .any e = true → L e.on) :
    ∀ (n j : Nat) (o : Oper), j < n → l[j]? = some o → (∀ e ∈ o.after, Region.binds .any e = true → L e.on) → ∀ i, waits (masks l []) j i = true → L i
  | 0, j, o, h, _, _, _, _ => by omega
  | n + 1, j, o, hj, ho, he, i, hw => by
    obtain ⟨pre, h1, h2⟩ := masks_at l [] j o ho
    simp only [List.length_nil, Nat.zero_add] at h1 h2
    have hbk : o.after.toList.all (fun e => decide (e.on < j)) = true := by
      have := List.all_eq_true.1 hb j (List.mem_range.2 (List.getElem?_eq_some_iff.1 ho).1)
      simpa [ho] using this
    unfold waits at hw
    rw [List.getD_eq_getElem?_getD, h1] at hw
    rcases testBit_foldl pre i _ 0 hw with h0 | ⟨e, hem, hbd, hh⟩
    · simp at h0
    · have hej : e.on < j := by simpa using List.all_eq_true.1 hbk e hem
      have hLe := he e (by simpa using hem) hbd
      rcases hh with rfl | hh
      · exact hLe
      · rw [h2 e.on hej] at hh
        have hlt : e.on < l.length := by have := (List.getElem?_eq_some_iff.1 ho).1; omega
        exact waits_listed hb hL n e.on l[e.on] (by omega) (List.getElem?_eq_getElem hlt) (fun e' he' hb' => hL e.on _ (List.getElem?_eq_getElem hlt) hLe e' he' hb') i hh

theorem pairsOk_sub {l : List Oper} {ms : List Nat} : ∀ (pi : List Nat) (i j : Nat), pairsOk l ms pi = true → List.Sublist [i, j] pi → pairOk l ms i j = true
  | [], i, j, _, h => by simp at h
  | k :: r, i, j, h, hs => by
    simp only [pairsOk, Bool.and_eq_true] at h
    cases hs with
    | cons _ hs => exact pairsOk_sub r i j h.2 hs
    | cons_cons _ hs => exact List.all_eq_true.1 h.1 j (List.singleton_sublist.1 hs)
theorem nodupB_iff : ∀ (l : List Nat), nodupB l = true ↔ l.Nodup
  | [] => by simp [nodupB]
  | i :: r => by simp [nodupB, nodupB_iff r]

theorem needF_ok {l : List Oper} {ms : List Nat} : ∀ (pi bef : List Nat), (∀ x ∈ bef, x ∉ pi) → pi.Nodup → ∀ pre j post, pi = pre ++ j :: post →
    ((∃ i, (i ∈ bef ∨ i ∈ pre) ∧ waits ms j i = false) ∨ ∃ i ∈ post, actAt l i = false) → needF l ms bef pi j = true
  | [], bef, _, _, pre, j, post, h, _ => by simp at h
  | i :: r, bef, hb, hn, [], j, post, h, hh => by
    simp only [List.nil_append, List.cons.injEq] at h
    obtain ⟨rfl, rfl⟩ := h
    simp only [needF, beq_self_eq_true, if_true, Bool.or_eq_true, List.any_eq_true]
    rcases hh with ⟨k, hk, hw⟩ | ⟨k, hk, hw⟩
    · rcases hk with hk | hk
      · exact .inl ⟨k, hk, by simp [hw]⟩
      · simp at hk
    · exact .inr ⟨k, hk, by simp [hw]⟩
  | i :: r, bef, hb, hn, k :: pre, j, post, h, hh => by
    simp only [List.cons_append, List.cons.injEq] at h
    obtain ⟨rfl, rfl⟩ := h
    have hne : ¬ i = j := by
      rintro rfl
      have := (List.nodup_cons.1 hn).1
      simp at this
    simp only [needF]
    rw [if_neg (by simpa using hne)]
    refine needF_ok (pre ++ j :: post) (i :: bef) ?_ (List.nodup_cons.1 hn).2 pre j post rfl ?_
    · intro x hx
      rcases List.mem_cons.1 hx with rfl | hx
      · exact (List.nodup_cons.1 hn).1
      · exact fun h => hb x hx (by simp [h])
    · rcases hh with ⟨x, hx, hw⟩ | hh
      · refine .inl ⟨x, ?_, hw⟩
        rcases hx with hx | hx
        · exact .inl (by simp [hx])
        · rcases List.mem_cons.1 hx with rfl | hx
          · exact .inl (by simp)
          · exact .inr hx
      · exact .inr hh

theorem sub_split {i j : Nat} : ∀ (pi : List Nat), List.Sublist [i, j] pi → ∃ pre m post, pi = pre ++ i :: m ++ j :: post
  | [], h => by simp at h
  | k :: r, h => by
    cases h with
    | cons _ h => obtain ⟨pre, m, post, rfl⟩ := sub_split r h; exact ⟨k :: pre, m, post, rfl⟩
    | cons_cons _ h =>
      obtain ⟨m, post, rfl⟩ := List.append_of_mem (List.singleton_sublist.1 h)
      exact ⟨[], m, post, rfl⟩
theorem waits_edge {l : List Oper} {j : Nat} {o : Oper} (ho : l[j]? = some o) {e : Edge} (he : e ∈ o.after) (hb : Region.binds .any e = true) : waits (masks l []) j e.on = true := by
  obtain ⟨pre, h1, _⟩ := masks_at l [] j o ho
  simp only [List.length_nil, Nat.zero_add] at h1
  unfold waits
  rw [List.getD_eq_getElem?_getD, h1]
  have mono : ∀ (es : List Edge) (m : Nat), m.testBit e.on = true → (es.foldl (fun m e => if Region.binds .any e then m ||| ((1 <<< e.on) ||| pre.getD e.on 0) else m) m).testBit e.on = true := by
    intro es
    induction es with
    | nil => intro m h; exact h
    | cons x es ih =>
      intro m h
      simp only [List.foldl_cons]
      apply ih
      split
      · simp [Nat.testBit_or, h]
      · exact h
  have hit : ∀ (es : List Edge) (m : Nat), e ∈ es → (es.foldl (fun m e => if Region.binds .any e then m ||| ((1 <<< e.on) ||| pre.getD e.on 0) else m) m).testBit e.on = true := by
    intro es
    induction es with
    | nil => intro m h; simp at h
    | cons x es ih =>
      intro m h
      simp only [List.foldl_cons]
      rcases List.mem_cons.1 h with rfl | h
      · apply mono
        rw [if_pos hb, Nat.testBit_or, Nat.testBit_or, Nat.one_shiftLeft, Nat.testBit_two_pow]
        simp
      · exact ih _ h
  exact hit _ 0 (by simpa using he)

section
variable {P : Program} {l : List Oper} {Q : Exit → Act → World → Prop} {C : World → Prop} {need : Nat → Bool}
theorem getD_flip {listed : Array Bool} {j : Nat} (hj : j < listed.size) : (listed.getD j true = false) ↔ ¬ (listed.getD j false = true) := by
  simp [Array.getD_eq_getD_getElem?, hj]
theorem lex_any (hsel : ∀ (j : Nat) (o : Oper) cs b, l.toArray[j]? = some o → o.op ≠ .select cs b) (hQ : ∀ c a w, ¬ Q (.panic c) a w) (hb : edgesBack l = true) (pi : List Nat)
    (hpair : ∀ i j, List.Sublist [i, j] pi → pairOk l (masks l []) i j = true) (hneed1 : ∀ i j, List.Sublist [i, j] pi → waits (masks l []) j i = false → need j = true)
    (hneed2 : ∀ i j, List.Sublist [j, i] pi → actAt l i = false → need j = true) :
    ∀ (fuel : Nat) (r : List Nat) (listed : Array Bool) (a : Act) (w : World), r.length = fuel → List.Sublist r pi → r.Nodup → (∀ j, j < l.length → (j ∈ r ↔ listed.getD j true = false)) → (∀ j ∈ r, j < l.length) → listed.size = l.length →
      (∀ (j : Nat) (o : Oper), l[j]? = some o → listed.getD j false = true → ∀ e ∈ o.after, Region.binds .any e = true → listed.getD e.on false = true) →
      ((∃ i ∈ r, actAt l i = false) → C w) → wpLex P l.toArray Q C (actAt l) need r a w → wpAny P .any l.toArray Q fuel listed a w := by
  intro fuel
  induction fuel with
  | zero =>
    intro r listed a w hlen _ _ hmem _ _ _ _ h
    have : r = [] := List.eq_nil_of_length_eq_zero hlen
    subst this
    refine ⟨?_, h⟩
    apply List.eq_nil_iff_forall_not_mem.2
    intro j hj
    obtain ⟨h0, o, ho, _⟩ := mem_ready.1 hj
    have hjl : j < l.length := by
      have := (Array.getElem?_eq_some_iff.1 ho).1; simpa using this
    simpa using (hmem j hjl).2 h0
  | succ fuel ih =>
    intro r listed a w hlen hsub hnd hmem hrl hsz hdown hC h
    refine ⟨fun hempty => ?_, fun j hj => ?_⟩
    · -- there is one that may come up: the first of the order
      exfalso
      cases r with
      | nil => simp at hlen
      | cons i r' =>
        have hil := hrl i (by simp)
        have hi0 := (hmem i hil).1 (by simp)
        have : i ∈ Region.ready .any l.toArray listed := by
          refine mem_ready.2 ⟨hi0, l[i], by simp [hil], fun e he hbd => ?_⟩
          have hw := waits_edge (List.getElem?_eq_getElem hil) he hbd
          have hlt : e.on < i := by
            have := List.all_eq_true.1 hb i (List.mem_range.2 hil)
            simp only [List.getElem?_eq_getElem hil] at this
            simpa using List.all_eq_true.1 this e (by simpa using he)
          apply Classical.byContradiction
          intro hn
          have hin : e.on ∈ i :: r' := (hmem e.on (by omega)).2 ((getD_flip (by omega)).2 hn)
          have hin' : e.on ∈ r' := by
            rcases List.mem_cons.1 hin with h' | h'
            · omega
            · exact h'
          have hp := hpair i e.on ((List.Sublist.cons_cons i (List.singleton_sublist.2 hin')).trans hsub)
          simp only [pairOk, Bool.and_eq_true] at hp
          simp [hw] at hp
        rw [hempty] at this
        simp at this
    · obtain ⟨h0, o, ho, hall⟩ := mem_ready.1 hj
      have hjl : j < l.length := by
        have := (Array.getElem?_eq_some_iff.1 ho).1; simpa using this
      have ho' : l[j]? = some o := by simpa using ho
      have hjr := (hmem j hjl).2 h0
      obtain ⟨pre, post, rfl⟩ := List.append_of_mem hjr
      have hwl := waits_listed hb (L := fun k => listed.getD k false = true) hdown (j + 1) j o (by omega) ho' hall
      have hpre : ∀ k ∈ pre, waits (masks l []) j k = false ∧ actAt l k = false ∧ ∀ ok oi, l.toArray[k]? = some ok → l.toArray[j]? = some oi → ok.apart l.toArray oi = true := by
        intro k hk
        have hkl := hrl k (by simp [hk])
        have hk0 := (hmem k hkl).1 (by simp [hk])
        have hnw : waits (masks l []) j k = false := by
          cases e : waits (masks l []) j k with
          | false => rfl
          | true => exact absurd (hwl k e) ((getD_flip (by omega)).1 hk0)
        have hs2 : List.Sublist [k, j] (pre ++ j :: post) := (List.singleton_sublist.2 hk).append (List.singleton_sublist.2 (by simp))
        have hp := hpair k j (hs2.trans hsub)
        simp only [pairOk, hnw, Bool.and_eq_true, Bool.false_or] at hp
        refine ⟨hnw, by simpa using hp.2.1, fun ok oi h1 h2 => ?_⟩
        have h3 := hp.2.2
        simp only [List.getElem?_toArray] at h1 h2
        rw [h1, h2] at h3
        exact h3
      have hn : pre ≠ [] → need j = true := by
        intro hne
        obtain ⟨k, hk⟩ := List.exists_mem_of_ne_nil _ hne
        have hs2 : List.Sublist [k, j] (pre ++ j :: post) := (List.singleton_sublist.2 hk).append (List.singleton_sublist.2 (by simp))
        exact hneed1 k j (hs2.trans hsub) (hpre k hk).1
      have h1 := wpLex_pull (act := actAt l) hsel hQ j post pre a w (fun k hk => (hpre k hk).2) hn (fun hor => hC (by
        rcases hor with h' | h'
        · exact ⟨j, by simp, h'⟩
        · obtain ⟨k, hk⟩ := List.exists_mem_of_ne_nil _ h'
          exact ⟨k, by simp [hk], (hpre k hk).2.1⟩)) (fun _ => ⟨o, ho⟩) h
      refine wpOp_mono (fun a' w' hh => ?_) h1
      have hsub' : List.Sublist (pre ++ post) (pre ++ j :: post) := (List.Sublist.refl pre).append (List.sublist_cons_self j post)
      have hjn : j ∉ pre ++ post := by
        have h3 := List.nodup_append.1 hnd
        intro hx
        rcases List.mem_append.1 hx with hx | hx
        · exact h3.2.2 j hx j (by simp) rfl
        · exact (List.nodup_cons.1 h3.2.1).1 hx
      refine ih (pre ++ post) (listed.setIfInBounds j true) a' w' (by simp at hlen ⊢; omega) (hsub'.trans hsub) (hnd.sublist hsub') ?_ (fun k hk => hrl k (hsub'.subset hk)) (by simpa using hsz) ?_ ?_ hh.2.2
      · intro k hk
        by_cases hjk : j = k
        · subst hjk
          have : (listed.setIfInBounds j true).getD j true = true := by simp [Array.getD_eq_getD_getElem?, hsz, hjl]
          rw [this]
          exact ⟨fun hx => absurd hx hjn, fun hx => by cases hx⟩
        · rw [getD_set_ne true hjk, ← hmem k hk]
          constructor
          · intro hx; exact hsub'.subset hx
          · intro hx
            rcases List.mem_append.1 hx with hx | hx
            · exact List.mem_append_left _ hx
            · rcases List.mem_cons.1 hx with hx | hx
              · exact absurd hx.symm hjk
              · exact List.mem_append_right _ hx
      · intro k ok hok hlk e he hbd
        by_cases hjk : j = k
        · subst hjk
          rw [ho'] at hok
          injection hok with hok
          subst hok
          exact getD_set_true (hall e he hbd)
        · rw [getD_set_ne false hjk] at hlk
          exact getD_set_true (hdown k ok hok hlk e he hbd)
      · rintro ⟨i, hi, hia⟩
        by_cases hja : actAt l j = true
        · refine hh.1 hja ?_
          rcases List.mem_append.1 hi with hi | hi
          · exact hn (fun e => by subst e; simp at hi)
          · have hs2 : List.Sublist [j, i] (pre ++ j :: post) := ((List.Sublist.cons_cons j (List.singleton_sublist.2 hi))).trans (List.sublist_append_right pre (j :: post))
            exact hneed2 i j (hs2.trans hsub) hia
        · have hjf : actAt l j = false := by simpa using hja
          rw [hh.2.1 hjf]
          exact hC ⟨j, by simp, hjf⟩

/-- THE THEOREM: the region's operations in the order pi -/
theorem wp_region_lex {id : Nat} {a : Act} {w : World} (C : World → Prop) (pi : List Nat) (hm : P.follows .mixedOrders = true) (hB : piOk l pi = true) (hC : C w.drew)
    (h : wpLex P l.toArray (NoPanic Q) C (actAt l) (needF l (masks l []) [] pi) pi a w.drew) : (Code.region id l.toArray true).wp P Q a w := by
  simp only [piOk, Bool.and_eq_true, beq_iff_eq] at hB
  obtain ⟨⟨⟨⟨⟨⟨hsel, hlen⟩, hnd⟩, hall⟩, hcv⟩, hpairs⟩, hback⟩ := hB
  have hnd' := (nodupB_iff pi).1 hnd
  have hrl : ∀ j ∈ pi, j < l.length := fun j hj => by simpa using List.all_eq_true.1 hall j hj
  refine Code.wp_mono NoPanic.imp (wp_region_any hm ?_)
  have hcov : ∀ j, j < l.length → j ∈ pi := by
    intro j hj
    simpa using List.all_eq_true.1 hcv j (List.mem_range.2 hj)
  have hsz : l.toArray.size = pi.length := by simp [hlen]
  rw [hsz]
  refine lex_any (fun j o cs b ho => Region.noSelect_spec hsel j o cs b ho) (fun c a w h => h) hback pi (fun i j hs => pairsOk_sub pi i j hpairs hs) ?_ ?_ pi.length pi (Array.replicate pi.length false) a w.drew rfl (List.Sublist.refl _) hnd' ?_ hrl (by simp [hlen]) ?_ (fun _ => hC) h
  · intro i j hs hw
    obtain ⟨pre, m, post, e⟩ := sub_split pi hs
    exact needF_ok pi [] (by simp) hnd' (pre ++ i :: m) j post e (.inl ⟨i, .inr (by simp), hw⟩)
  · intro i j hs hw
    obtain ⟨pre, m, post, e⟩ := sub_split pi hs
    refine needF_ok pi [] (by simp) hnd' pre j (m ++ i :: post) (by rw [e]; simp) (.inr ⟨i, by simp, hw⟩)
  · intro j hj
    have : (Array.replicate pi.length false).getD j true = false := by simp [Array.getD_eq_getD_getElem?, hlen, hj]
    exact ⟨fun _ => this, fun _ => hcov j hj⟩
  · intro j o ho hl
    simp [Array.getD_eq_getD_getElem?, Array.getElem?_replicate] at hl
    split at hl <;> simp at hl

end

theorem run_v {P : Program} {s : Sem Value} {w w' : World} {n : Next} (h : (do pure (Next.value (← s)) : Sem Next).run P w = .ok n w') : ∃ u, n = .value u := by
  simp only [Sem.run_bind] at h
  cases e : s.run P w with
  | ok u w1 => rw [e] at h; simp at h; exact ⟨u, h.1.symm⟩
  | halt x w1 => rw [e] at h; simp [Result.andThen] at h
/-- an operation that only reads yields a value, or stops -/
theorem exec_value {P : Program} {o : Oper} {ρ : Operand → Value} {w w' : World} {n : Next} (ha : actOp o.op = false) (hn : ∀ x, o.op ≠ .nilCheck x) (h : (execOp ρ o).run P w = .ok n w') : ∃ u, n = .value u := by
  unfold execOp at h
  cases e : o.op <;> rw [e] at h ha <;> first | (simp [actOp] at ha; done) | (exact run_v h) | (simp at h; exact ⟨_, h.1.symm⟩) | skip
  case nilCheck x => exact absurd e (hn x)
  case pick c a b =>
    simp only [Sem.run_bind] at h
    cases e2 : (asBool (ρ c)).run P w with
    | ok u w1 => rw [e2] at h; simp at h; exact ⟨_, h.1.symm⟩
    | halt x w1 => rw [e2] at h; simp [Result.andThen] at h
  case call c =>
    simp only [actOp] at ha
    cases e2 : c.callee with
    | value f => rw [e2] at ha; simp at ha
    | invoke r m => rw [e2] at ha; simp at ha
    | builtin b =>
      rw [e2] at ha
      simp only [resolve, e2, Sem.run_bind, Sem.run_pure, Result.andThen_ok, invoke] at h
      cases b <;> simp at ha <;> exact run_v h

section
variable {P : Program} {Q : Exit → Act → World → Prop} {C : World → Prop} {l : List Oper} {need : Nat → Bool}
/-- the moves: an operation that only reads -/
theorem lex_q {i : Nat} {r : List Nat} {a : Act} {w : World} (o : Oper) (ho : l[i]? = some o) (ha : actOp o.op = false) (hn : (match o.op with | .nilCheck _ => true | _ => false) = false)
    (h : wpQuiet P l.toArray C (fun a' => wpLex P l.toArray Q C (actAt l) need r a' w) [o] a) : wpLex P l.toArray Q C (actAt l) need (i :: r) a w := by
  have haf : actAt l i = false := by simp [actAt, ho, ha]
  simp only [wpLex, haf]
  rw [if_neg (by simp)]
  simp only [wpQuiet] at h
  by_cases hw : Region.wanted o (yielded l.toArray a.tmps) = true
  · rw [if_pos hw] at h
    obtain ⟨v, h1, h2⟩ := h
    refine ⟨o, v, by simpa using ho, .inl ⟨hw, fun w' hw' => ?_⟩, h2⟩
    have h3 := h1 w' hw'
    unfold Oper.quietAt at h3
    cases e : (execOp a.eval o).run P w' with
    | halt x w1 => rw [e] at h3; simp [Oper.quietUpon] at h3
    | ok n w1 =>
      obtain ⟨u, rfl⟩ := exec_value ha (fun x hx => by rw [hx] at hn; simp at hn) e
      rw [e] at h3
      simp only [Oper.quietUpon] at h3
      rw [h3.1, h3.2]
  · rw [if_neg hw] at h
    exact ⟨o, undef, by simpa using ho, .inr ⟨by simpa using hw, rfl⟩, h⟩

/-- what is asked behind another operation -/
def lexPost (b : Bool) (C : World → Prop) (K : Act → World → Prop) : Exit → Act → World → Prop
  | .normal, a, w => (b = true → C w) ∧ K a w
  | _, _, _ => False
theorem lex_a {i : Nat} {r : List Nat} {a : Act} {w : World} (o : Oper) (ho : l[i]? = some o) (ha : actOp o.op = true) (b : Bool) (hb : need i = b)
    (h : wpList P l.toArray (lexPost b C (wpLex P l.toArray Q C (actAt l) need r)) [o] a w) : wpLex P l.toArray Q C (actAt l) need (i :: r) a w := by
  subst hb
  have hQ : LetsOut (lexPost (need i) C (wpLex P l.toArray Q C (actAt l) need r)) → LetsOut Q := fun ⟨_, _, h⟩ => h.elim
  have haf : actAt l i = true := by simp [actAt, ho, ha]
  simp only [wpLex, haf, if_true]
  unfold wpOp
  simp only [List.getElem?_toArray, ho]
  simp only [wpList] at h
  by_cases hw : Region.wanted o (yielded l.toArray a.tmps) = true
  · rw [if_pos hw] at h ⊢
    rcases h with h | ⟨h1, h2⟩
    · refine .inl ?_
      unfold Oper.wp at h ⊢
      generalize (execOp a.eval o).run P w = res at h ⊢
      cases res with
      | ok n w' =>
        cases n <;> simp only [Oper.upon] at h ⊢
        case value u => exact h
        case skip => exact h
        case defer d => exact h
        case enter f args =>
          refine Calls.mono h fun e w'' he => ?_
          cases e with
          | returned u => exact he
          | panicked c => exact he.elim
          | outgrown => exact hQ he
        case row row args => exact h
      | halt x w' =>
        cases x <;> simp only [Oper.upon] at h ⊢
        case panic u => exact h.elim
    · exact .inr ⟨h1, hQ h2⟩
  · rw [if_neg hw] at h ⊢
    exact h
end

end
end Go.Proofs.YtnglahcjemgcaaaGreatDoor
