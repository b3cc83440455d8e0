/- Steps of a region that draws its order: a call of a function by its contract; an append onto a row of one's own. Over any program. -/
import Derived.Test.YtbkliamhignmfaaGreatDoorRow
import Derived.Deep.RegionLaw
import Derived.OwnWalk
namespace Go.Proofs.YtbkliamhignmfaaGreatDoor
open Go.RowKit
variable {P : Program}

theorem step_calls {ops : Array Oper} {o : Oper} {a : Act} {w : World} {K : Act → World → Prop} {Q : Exit → Act → World → Prop} {E : Prop}
    (hg : o.guard = none) (f : FuncId) (as : Array Operand) (ts : Array TypeId) (hop : o.op = Op.call { callee := Callee.value (Operand.func f), args := as, argTypes := ts })
    (hf : ∀ args w, (callFunc f args).run P w = .ok (.enter f args) w) (args : Array Value) (hargs : as.map a.eval = args) {R : Ending → World → Prop} (hc : Calls P f args w R)
    (hR : ∀ e w', R e w' → ∃ v, e = .returned v ∧ K (a.put o.dst v) w') :
    if Region.wanted o (yielded ops a.tmps) = true then Oper.wp P o a w K Q else E := by
  have hw : Region.wanted o (yielded ops a.tmps) = true := by simp [Region.wanted, hg]
  rw [if_pos hw]
  unfold Oper.wp
  have hrun : (execOp a.eval o).run P w = .ok (.enter f args) w := by
    subst hargs
    have he : a.eval (Operand.func f) = .func (.func f) #[] #[] := rfl
    simp [execOp, hop, resolve, invoke, Result.andThen, hf, he, Deferred.ofValue]
  rw [hrun]
  show Calls P f args w _
  refine hc.mono (fun e w' he => ?_)
  obtain ⟨v, rfl, hk⟩ := hR e w' he
  exact hk

theorem step_append_own {ops : Array Oper} {o : Oper} {a : Act} {w : World} {K : Act → World → Prop} {Q : Exit → Act → World → Prop} {E : Prop}
    (hg : o.guard = none) (d x : Operand) (t : TypeId) (hop : o.op = Op.call { callee := Callee.builtin Builtin.append, args := #[d, x], argTypes := #[t, t] })
    (base : Nat) (e : TypeId) (i : TypeInfo) (z : Value) (size bytes : Nat) (ht : P.underlying t = some (.slice e)) (hi : P.info? e = some i) (hz : i.zero = some z) (hsize : i.size = size) (hby : i.bytes = bytes) (hzs : z.cells.size = size) (hsz : 0 < size)
    (v : Value) (n : Nat) (xs : List Value) (hd : a.eval d = v) (hown : w.ownsRow base e size v n xs) (ad : Addr) (m c : Nat) (news : List Value) (hx : a.eval x = .slice (some ad) m c) (hl : news.length = m * size)
    (hnews : ∀ j u, news[j]? = some u → w.cell? (ad.add j) = some u) (h1 : ∀ u ∈ news, u.oneCell' = true) (h63 : n + m ≤ maxLen) (hbytes : (n + m) * bytes ≤ 140737488355328) (hbase : base ≤ w.heap.size)
    (hK : ∀ v' w', w'.ownsRow base e size v' (n + m) (xs ++ news) → w.grownBy w' v.ownBlock → K (a.put o.dst v') w') :
    if Region.wanted o (yielded ops a.tmps) = true then Oper.wp P o a w K Q else E := by
  obtain ⟨v', w', hrun, r1, r2, _⟩ := run_append_own (P := P) w base t o.type e i z size bytes ht hi hz hsize hby hzs hsz v n xs hown ad m c news hl hnews h1 h63 hbytes hbase
  exact step_append_ran hg d x t t hop v (.slice (some ad) m c) hd hx hrun (hK v' w' r1 r2)
end Go.Proofs.YtbkliamhignmfaaGreatDoor
