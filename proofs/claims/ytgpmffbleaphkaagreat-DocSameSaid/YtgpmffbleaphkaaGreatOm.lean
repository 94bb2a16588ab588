/-
 Short names of short proofs: each is its last argument, which is found by a tactic where it is left out.
-/
namespace Go.Cl
theorem Z {p:Prop}(h:p:=by omega):p:=h
theorem ag {p a:Prop}(x:a)(h:a->p:=by intro _;omega):p:=h x
theorem bq {p a b:Prop}(x:a)(y:b)(h:a->b->p:=by intro _ _;omega):p:=h x y
theorem qG {p a b c:Prop}(x:a)(y:b)(z:c)(h:a->b->c->p:=by intro _ _ _;omega):p:=h x y z
theorem ai {p:Prop}(h:p:=by decide):p:=h
theorem aA {p:Prop}(h:p:=by simp):p:=h
end Go.Cl