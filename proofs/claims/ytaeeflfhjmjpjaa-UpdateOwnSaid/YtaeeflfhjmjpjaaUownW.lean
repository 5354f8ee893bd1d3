/- UpdateOwn's walk, and how its arguments are opened. -/
import Derived.Test.YtaeeflfhjmjpjaaUown
