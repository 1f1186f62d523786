/- The plain data of the program, as Lean structures: no Go, no memory. -/
namespace Go.Fu

structure Spec where
  C : Int
  T : Int
  Max : Int
  M : Int
  K : Int
  E : Int
  deriving DecidableEq, Inhabited

structure Job where
  On : Bool
  J : Int
  Rel : Int
  Due : Int
  Mand : Bool
  C : Int
  D : Int
  Ran : Int
  deriving DecidableEq, Inhabited

structure Live where
  S : Spec
  J : Job
  P : Int
  At : Int
  N : Int
  deriving DecidableEq, Inhabited

structure Fix where
  S : Spec
  P : Int
  deriving DecidableEq, Inhabited

structure Spr where
  U : Int
  Min : Int
  E : Int
  deriving DecidableEq, Inhabited

structure Item where
  Key : Int
  ID : Int
  deriving DecidableEq, Inhabited

structure Ape where
  ID : Int
  Due : Int
  C : Int
  V : Int
  Ran : Int
  deriving DecidableEq, Inhabited

structure Opt where
  Far : Int
  Due : Int
  ID : Int
  deriving DecidableEq, Inhabited

structure Ring where
  N : Int
  B : Int
  deriving DecidableEq, Inhabited

structure Task where
  ID : Int
  S : Spec
  P : Int
  Next : Int
  At : Int
  N : Int
  J : Job
  H : Ring
  Kept : Bool
  deriving DecidableEq, Inhabited

structure Aim where
  ID : Int
  S : Spec
  P : Int
  deriving DecidableEq, Inhabited

structure Reply where
  E : Int
  N : Int
  deriving DecidableEq, Inhabited

structure Choice where
  Band : Int
  ID : Int
  deriving DecidableEq, Inhabited

structure Op where
  Kind : Int
  ID : Int
  S : Spec
  T : Int
  Max : Int
  Within : Int
  C : Int
  V : Int
  D : List Int
  deriving DecidableEq, Inhabited

structure World where
  Now : Int
  T : List Task
  A : List Ape
  Cur : Int
  deriving DecidableEq, Inhabited

structure Trace where
  At : Int
  C : Choice
  F : Int
  Began : List Int
  Missed : List Int
  Gone : List Int
  deriving DecidableEq, Inhabited

structure Ask where
  On : Bool
  Since : Int
  By : Int
  New : Int
  L : List Aim
  deriving DecidableEq, Inhabited

structure Serv where
  W : World
  R : Ask
  NextID : Int
  NextAp : Int
  deriving DecidableEq, Inhabited

end Go.Fu
